import Derived.Test.YtgnkhncogfppgaaUG
import Derived.Test.YtgnkhncogfppgaaUE
import Derived.Test.YtgnkhncogfppgaaBF
namespace Go.Proofs.Ytgnkhncogfppgaa
open Go.RowKit
theorem head2w {P : Program} {id : Nat} {Q : Exit → Act → World → Prop} {a : Act} {w : World} {l : List Oper} (n : Nat) (hm : P.follows .mixedOrders = true) (hB : Region.lexTailB .any l.toArray n = true) (hN : newsB P l.toArray n = true) (k1 k2 : Nat) (h1 : newsIn l.toArray n = [k1, k2]) (hne : k1 ≠ k2)
    (d1 d2 : Nat) (hdd : d1 ≠ d2) (T1 T2 : TypeId) (hk1 : ((l[k1]?).bind fun o => match o.op with | .alloc T' => if T' = T1 then o.dst else none | _ => none) = some d1) (hk2 : ((l[k2]?).bind fun o => match o.op with | .alloc T' => if T' = T2 then o.dst else none | _ => none) = some d2)
    (v1 v2 : Value) (hv1 : (P.info? T1).bind (·.zero) = some v1) (hv2 : (P.info? T2).bind (·.zero) = some v2)
    (h : lexQ P l.toArray w (fun a' => ∀ w' r1 r2, Below w.heap.size w w' → w.heap.size ≤ r1 → w.heap.size ≤ r2 → r1 ≠ r2 → RowAt T1 w' r1 v1.cells → RowAt T2 w' r2 v2.cells → wpList P l.toArray Q (l.drop n) ((a'.put (some d1) (.pointer (some ⟨r1, 0, none⟩))).put (some d2) (.pointer (some ⟨r2, 0, none⟩))) w') (l.take n) a) :
    (Code.region id l.toArray true).wp P Q a w := by
  have key : ∀ (k d : Nat) (T : TypeId), ((l[k]?).bind fun (o : Oper) => match o.op with | .alloc T' => if T' = T then o.dst else none | _ => none) = some d → ∃ o, l.toArray[k]? = some o ∧ o.op = .alloc T ∧ o.dst = some d := fun k d T hk => by
    cases ho : l[k]? with
    | none => rw [ho] at hk; cases hk
    | some o =>
      rw [ho] at hk
      simp only [Option.bind_some] at hk
      split at hk
      · rename_i T' hop
        split at hk
        · rename_i hT
          subst hT
          exact ⟨o, by simpa using ho, hop, hk⟩
        · cases hk
      · cases hk
  obtain ⟨o1, ho1, hT1, hd1⟩ := key k1 d1 T1 hk1
  obtain ⟨o2, ho2, hT2, hd2⟩ := key k2 d2 T2 hk2
  refine head2 n hm hB hN k1 k2 h1 hne o1 o2 ho1 ho2 (fun d hd => by rw [hd1] at hd; injection hd with hd; subst hd; rw [hd2]; simpa using Ne.symm hdd) T1 T2 hT1 hT2 v1 v2 hv1 hv2 ?_
  rw [hd1, hd2]
  exact h
set_option maxRecDepth 100000 in
set_option maxHeartbeats 16000000 in
theorem sets_walk (a1 a2 b1 b2 x : Int) (w : World) : Calls Try.prog 7 #[.agg (ic a1 a2), .agg (ic b1 b2), .int .i64 x] w (Ret w (.bool true)) := by
  obtain ⟨r, hr⟩ : ∃ p : Nat, (IntKind.u64.wrap x).toNat = p := ⟨_, rfl⟩
  have hrr : IntKind.u64.wrap x = (r : Int) := by rw [← hr]; exact u64_nat _
  obtain ⟨k, hk⟩ : ∃ k : Nat, r % 3 = k := ⟨_, rfl⟩
  have x1 : (r : Int) % 3 = (k : Int) := by omega
  have hk3 : k < 3 := by omega
  clear hr hk
  have hb1 : ∀ W : World, Calls Try.prog 36 #[.agg (ic a1 a2)] W (Ret W (.agg (ic (wrap32 a1) (wrap32 a2)))) := fun W => bend_any a1 a2 W
  have hb2 : ∀ W : World, Calls Try.prog 36 #[.agg (ic b1 b2)] W (Ret W (.agg (ic (wrap32 b1) (wrap32 b2)))) := fun W => bend_any b1 b2 W
  have hn1 : ∀ W : World, Calls Try.prog 35 #[.agg (ic (wrap32 a1) (wrap32 a2))] W (Ret W (.agg (ic (nrm (wrap32 a1) (wrap32 a2)).1 (nrm (wrap32 a1) (wrap32 a2)).2))) := fun W => norm8_any _ _ W
  have hn2 : ∀ W : World, Calls Try.prog 35 #[.agg (ic (wrap32 b1) (wrap32 b2))] W (Ret W (.agg (ic (nrm (wrap32 b1) (wrap32 b2)).1 (nrm (wrap32 b1) (wrap32 b2)).2))) := fun W => norm8_any _ _ W
  have g1 : Good32 (nrm (wrap32 a1) (wrap32 a2)) := good_nrm (wrap32_bd _).1 (wrap32_bd _).2
  have g2 : Good32 (nrm (wrap32 b1) (wrap32 b2)) := good_nrm (wrap32_bd _).1 (wrap32_bd _).2
  generalize nrm (wrap32 a1) (wrap32 a2) = P at *
  generalize nrm (wrap32 b1) (wrap32 b2) = Q at *
  generalize wrap32 a1 = u1 at *
  generalize wrap32 a2 = u2 at *
  generalize wrap32 b1 = u3 at *
  generalize wrap32 b2 = u4 at *
  obtain ⟨p1, p2⟩ := P
  obtain ⟨t1, t2⟩ := Q
  obtain ⟨⟨mn, mo, mz⟩, nn, no, nz', ni⟩ := sets_f hk3 g1 g2
  have i1 : ∀ (z : Zn) (x : Int), InB z x p1 p2 := fun _ _ _ _ h => by
    rcases g1 with e | ⟨e1, e2, e3⟩
    · injection e with e1 e2; subst e1; subst e2; omega
    · exact ⟨by have : -2147483648 ≤ p1 := e1; omega, by have : p1 ≤ p2 := e2; have : p2 ≤ 2147483647 := e3; omega⟩
  have i2 : ∀ (z : Zn) (x : Int), InB z x t1 t2 := fun _ _ _ _ h => by
    rcases g2 with e | ⟨e1, e2, e3⟩
    · injection e with e1 e2; subst e1; subst e2; omega
    · exact ⟨by have : -2147483648 ≤ t1 := e1; omega, by have : t1 ≤ t2 := e2; have : t2 ≤ 2147483647 := e3; omega⟩
  have HZ : Hid (∀ W : World, Calls Try.prog 38 #[.int .i64 3] W (NRet W (zerosZ 3))) := fun W => num_zeros 3 (by omega) W
  have HS1 : Hid (∀ sl W, Calls Try.prog 37 #[.agg (nz (zerosZ 3) sl), .int .i64 (k : Int), .agg (ic p1 p2)] W (NRet W (setZ (zerosZ 3) k (p1, p2)))) := fun sl W => num_set (zerosZ 3) (by decide) _ sl (i1 _ _) W
  have HS2 : Hid (∀ sl W, Calls Try.prog 37 #[.agg (nz (setZ (zerosZ 3) k (p1, p2)) sl), .int .i64 (k : Int), .agg (ic t1 t2)] W (NRet W (setZ (setZ (zerosZ 3) k (p1, p2)) k (t1, t2)))) := fun sl W => num_set _ (by rw [mn]; decide) _ sl (i2 _ _) W
  clear g1 g2 i1 i2
  generalize setZ (setZ (zerosZ 3) k (p1, p2)) k (t1, t2) = N at *
  generalize setZ (zerosZ 3) k (p1, p2) = M at *
  generalize zerosZ 3 = Z0 at *
  have HE1 : Hid (∀ W : World, Calls Try.prog 40 #[.agg (ic p1 p2)] W (Ret W (.bool (decide (p2 < p1))))) := fun W => empty_any p1 p2 W
  have HE2 : Hid (∀ W : World, Calls Try.prog 40 #[.agg (ic t1 t2)] W (Ret W (.bool (decide (t2 < t1))))) := fun W => empty_any t1 t2 W
  have mz : M.none = decide (p2 < p1) := mz
  have nz' : N.none = (decide (p2 < p1) || decide (t2 < t1)) := nz'
  generalize decide (p2 < p1) = pb at *
  generalize decide (t2 < t1) = qb at *
  obtain ⟨DM, rfl⟩ : ∃ D, M = ⟨3, pb, D⟩ := ⟨M.D, Zn.ext' mn mz fun _ _ => rfl⟩
  obtain ⟨DN, rfl⟩ : ∃ D, N = ⟨3, pb || qb, D⟩ := ⟨N.D, Zn.ext' nn nz' fun _ _ => rfl⟩
  have HS2 : Hid (∀ sl W, Calls Try.prog 37 #[.agg (nc pb sl 3 pb DM), .int .i64 (k : Int), .agg (ic t1 t2)] W (NRet W ⟨3, pb || qb, DN⟩)) := HS2
  have HNO := Lib.hid no
  have HNI := Lib.hid ni
  have HB1 := Lib.hid hb1
  have HB2 := Lib.hid hb2
  have HN1 : Hid (∀ W : World, Calls Try.prog 35 #[.agg (ic u1 u2)] W (Ret W (.agg (ic p1 p2)))) := hn1
  have HN2 : Hid (∀ W : World, Calls Try.prog 35 #[.agg (ic u3 u4)] W (Ret W (.agg (ic t1 t2)))) := hn2
  have HC0 : Hid (∀ W : World, Calls Try.prog 26 #[.int .i64 0] W (Ret W (.agg (ic 0 0)))) := fun W => const_any 0 W
  clear mn mo mz nn no nz' ni hb1 hb2 hn1 hn2
  go_enter Try.func7, Try.ntmps7
  go_wp2_with (first
    | (refine box_row rfl 53 _ rfl _ rfl ?_; (first | (have _t := hs1; intro W2 hq hb2 hs2; rw [hs1.out] at hq hb2 hs2; rw [hs1.out]; have hp := hp.below hb2 (by omega); have hb := hb.trans (hb2.mono (by omega)); clear hb2 _t) | (intro W1 hp hb hs1)))
    | fail)
  clear hrr x1
  refine head2w 8 (by kernel_rfl) (by kernel_rfl) (by kernel_rfl) 6 7 (by kernel_rfl) (by decide) 8 9 (by decide) 53 53 (by kernel_rfl) (by kernel_rfl) _ _ iz8 iz8 ?_
  simp only [List.take_succ_cons, List.take_zero, List.drop_succ_cons, List.drop_zero]
  (refine o_start ?_; (iterate 8 (first | (refine o_skip rfl rfl rfl ?_) | (refine o_have rfl fun hw => ?_; (first | (refine o_move hw.out _ rfl rfl rfl rfl ?_) | (refine o_pickT hw.out _ _ _ rfl rfl rfl rfl rfl ?_) | (refine o_pickF hw.out _ _ _ rfl rfl rfl rfl rfl ?_) | (refine o_new hw.out rfl rfl rfl ?_) | (refine o_load_row hw.out _ _ rfl rfl hp (by first | exact Try.underlying53) rfl isz8 rfl rfl ?_) | (refine o_load_row hw.out _ _ rfl rfl hq (by first | exact Try.underlying53) rfl isz8 rfl rfl ?_) | (refine o_bin hw.out _ _ _ _ _ rfl rfl rfl rfl rfl (fun W => by go_simp; first | done | rfl) ?_) | (refine o_un hw.out _ _ _ rfl rfl rfl rfl (fun W => by go_simp; first | done | rfl) ?_) | (refine o_field hw.out _ _ _ rfl rfl rfl rfl (fun W => by go_simp; first | done | rfl) ?_) | (refine o_index hw.out _ _ _ rfl rfl rfl rfl rfl (fun W => by go_simp; first | done | rfl) ?_) | (refine o_conv hw.out _ _ _ rfl rfl rfl rfl (fun W => by go_simp; first | done | rfl) ?_) | (refine o_call hw.out _ _ _ rfl rfl (fun W hW => HB1.out W) (by with_reducible rfl) (by with_reducible rfl) rfl rfl (fun ρ W hρ => by go_simp; done) ?_) | (refine o_call hw.out _ _ _ rfl rfl (fun W hW => HB2.out W) (by with_reducible rfl) (by with_reducible rfl) rfl rfl (fun ρ W hρ => by go_simp; done) ?_) | (refine o_call hw.out _ _ _ rfl rfl (fun W hW => HN1.out W) (by with_reducible rfl) (by with_reducible rfl) rfl rfl (fun ρ W hρ => by go_simp; done) ?_) | (refine o_call hw.out _ _ _ rfl rfl (fun W hW => HN2.out W) (by with_reducible rfl) (by with_reducible rfl) rfl rfl (fun ρ W hρ => by go_simp; done) ?_)); clear hw))); refine o_end ?_; simp only [app, List.set_cons_succ, List.set_cons_zero])
  intro w1 g8 g9 hb3 hg8 hg9 hne h8 h9
  have h8 : RowAt 53 w1 g8 (ic 0 0) := h8
  have h9 : RowAt 53 w1 g9 (ic 0 0) := h9
  have hl := hs2.out
  have hb := hb.trans (hb3.mono hb.size)
  clear hb3 hp hq hs1 hs2
  simp only [Act.put, List.setIfInBounds_toArray, List.set_cons_succ, List.set_cons_zero]
  go_wp2_with (first
    | (have _t := h8; refine store_8 rfl _ _ rfl rfl rfl h8 ?_; intro W4 h8' hg4 hs4; have h9 := h9.only hg4 (Ne.symm hne); have hb := below_only hb hg4 hb.size (by omega); clear h8 _t; have h8 := h8'; clear h8' hg4)
    | (refine store_8 rfl _ _ rfl rfl rfl h9 ?_; intro W5 h9' hg5 hs5; have h8 := h8.only hg5 hne; have hb := below_only hb hg5 hb.size (by omega); clear h9; have h9 := h9'; clear h9' hg5)
    | fail)
  have e0 := h8.cell' 0 rfl
  have e1 := h8.cell' 1 rfl
  have f0 := h9.cell' 0 rfl
  have f1 := h9.cell' 1 rfl
  clear h8 h9 hs4 hs5
  apply region_LG (n := 14) (h := W5.heap.size) (Sx := fun j => Nat.beq j 10 || Nat.beq j 11 || Nat.beq j 12 || Nat.beq j 13) (Ψ := Duo 32 32 10 11 12 13 W5.heap.size (ic p1 p2) (ic 0 0) (ic t1 t2) (ic 0 0))
  case hh => exact Nat.le_refl _
  case hm => kernel_rfl
  case hB => kernel_rfl
  case hT => kernel_rfl
  case stab => exact fun Λ ρ W W' j v hj hb' _ hD => hD.stab (fun e => by subst e; exact absurd hj (by decide)) (fun e => by subst e; exact absurd hj (by decide)) (fun e => by subst e; exact absurd hj (by decide)) (fun e => by subst e; exact absurd hj (by decide)) hb'
  case h0 => exact fun W hW => Duo.none rfl rfl rfl rfl
  simp only [List.take_succ_cons, List.take_zero, List.drop_succ_cons, List.drop_zero]
  iterate 10 ((apply g_det; (exact rfl); (exact rfl); (exact rfl); (exact rfl); focus (intro W0 hW0; (first | (refine o_skip rfl rfl rfl ?_) | (refine o_have rfl fun hw => ?_; (first | (refine o_assign hw.out _ rfl rfl rfl rfl ?_) | (refine o_move hw.out _ rfl rfl rfl rfl ?_) | (refine o_pickT hw.out _ _ _ rfl rfl rfl rfl rfl ?_) | (refine o_pickF hw.out _ _ _ rfl rfl rfl rfl rfl ?_) | (refine o_loadc hw.out _ _ rfl rfl ((hW0.cell (p := ⟨_, _, none⟩) (block_lt_of_cell e0)).trans e0) rfl rfl (by first | exact Try.underlying3 | exact Try.underlying4) rfl ?_) | (refine o_loadc hw.out _ _ rfl rfl ((hW0.cell (p := ⟨_, _, none⟩) (block_lt_of_cell e1)).trans e1) rfl rfl (by first | exact Try.underlying3 | exact Try.underlying4) rfl ?_) | (refine o_loadc hw.out _ _ rfl rfl ((hW0.cell (p := ⟨_, _, none⟩) (block_lt_of_cell f0)).trans f0) rfl rfl (by first | exact Try.underlying3 | exact Try.underlying4) rfl ?_) | (refine o_loadc hw.out _ _ rfl rfl ((hW0.cell (p := ⟨_, _, none⟩) (block_lt_of_cell f1)).trans f1) rfl rfl (by first | exact Try.underlying3 | exact Try.underlying4) rfl ?_) | (refine o_buildi hw.out _ _ rfl rfl rfl rfl rfl ?_) | (refine o_bin hw.out _ _ _ _ _ rfl rfl rfl rfl rfl (fun W => by go_simp; first | done | rfl) ?_) | (refine o_un hw.out _ _ _ rfl rfl rfl rfl (fun W => by go_simp; first | done | rfl) ?_) | (refine o_field hw.out _ _ _ rfl rfl rfl rfl (fun W => by go_simp; first | done | rfl) ?_) | (refine o_index hw.out _ _ _ rfl rfl rfl rfl rfl (fun W => by go_simp; first | done | rfl) ?_) | (refine o_conv hw.out _ _ _ rfl rfl rfl rfl (fun W => by go_simp; first | done | rfl) ?_)))); exact g_lk rfl)))
  apply g_spc (A := fun v => ∃ g, v = pt g)
  case hv => exact ⟨pt 0, 0, rfl⟩
  case h1 => exact fun hst Λ ρ W hW hD hk hdep hval => step_alloc hst rfl 32 rfl iz32 fun W' hr hb' hs' => ⟨⟨_, rfl⟩, hW.trans (hb'.mono hW.size), hD.make1 hk (by decide) hr hb' hW.size⟩
  rintro _ ⟨g10, rfl⟩
  dsimp only [putO]
  apply g_spc (A := fun v => ∃ g, v = pt g)
  case hv => exact ⟨pt 0, 0, rfl⟩
  case h1 => exact fun hst Λ ρ W hW hD hk hdep hval => step_alloc hst rfl 32 rfl iz32 fun W' hr hb' hs' => ⟨⟨_, rfl⟩, hW.trans (hb'.mono hW.size), hD.make2 hk (by decide) hr hb' hW.size⟩
  rintro _ ⟨g11, rfl⟩
  dsimp only [putO]
  apply g_spc (A := fun v => v = undef)
  case hv => exact ⟨undef, rfl⟩
  case h1 =>
    intro hst Λ ρ W hW hD hk hdep hval
    have h10 : Λ 10 = true := hdep { on := 10, ground := .data } (by simp) rfl
    have he : pt g10 = ρ 10 := by have := hval 10 _ 10 (by omega) rfl rfl h10; injection this
    obtain ⟨hrow, hgb⟩ := hD.1.get h10 he.symm
    rw [show Λ 12 = false from hk] at hrow
    exact step_store_row hst rfl 32 _ _ rfl rfl rfl hrow rfl isz32 (ic_one _ _) fun W' hr' hg' => ⟨rfl, below_only hW hg' hW.size hgb, hD.put1 h10 (by decide) he.symm hr' hg'⟩
  rintro _ rfl
  dsimp only [putO]
  apply g_spc (A := fun v => v = undef)
  case hv => exact ⟨undef, rfl⟩
  case h1 =>
    intro hst Λ ρ W hW hD hk hdep hval
    have h11 : Λ 11 = true := hdep { on := 11, ground := .data } (by simp) rfl
    have he : pt g11 = ρ 11 := by have := hval 11 _ 11 (by omega) rfl rfl h11; injection this
    obtain ⟨hrow, hgb⟩ := hD.2.1.get h11 he.symm
    rw [show Λ 13 = false from hk] at hrow
    exact step_store_row hst rfl 32 _ _ rfl rfl rfl hrow rfl isz32 (ic_one _ _) fun W' hr' hg' => ⟨rfl, below_only hW hg' hW.size hgb, hD.put2 h11 (by decide) he.symm hr' hg'⟩
  rintro _ rfl
  dsimp only [putO]
  apply g_end
  intro W7 Λ ρ hW hD hall hval
  have he : pt g10 = ρ 10 := by have := hval 10 _ 10 (by omega) rfl rfl; injection this
  have he2 : pt g11 = ρ 11 := by have := hval 11 _ 11 (by omega) rfl rfl; injection this
  have hi := (hD.1.get (hall 10 (by omega)) he.symm).1
  have hj := (hD.2.1.get (hall 11 (by omega)) he2.symm).1
  rw [hall 12 (by omega)] at hi
  rw [hall 13 (by omega)] at hj
  have hi : RowAt 32 W7 g10 (ic p1 p2) := hi
  have hj : RowAt 32 W7 g11 (ic t1 t2) := hj
  have hb := hb.trans (hW.mono hb.size)
  clear e0 e1 f0 f1 hW hD hall hval he he2
  simp only [fr, app, pt, List.set_cons_succ, List.set_cons_zero]
  go_wp2
  clear hg8 hg9 hl hne mz nz'
  have hil := hi.lt
  have hjl := hj.lt
  have hb0 := hb.size
  have HL : StabL [(3, NumV ⟨3, pb, DM⟩ W7.heap.size), (4, NewN W7.heap.size)] := .cons (NumV.stab _ _) (.cons (NewN.stab _) .nil)
  apply region_K 5 [(3, NumV ⟨3, pb, DM⟩ W7.heap.size), (4, NewN W7.heap.size)] HL (by kernel_rfl) (by kernel_rfl) (by kernel_rfl)
  simp only [List.take_succ_cons, List.take_zero, List.drop_succ_cons, List.drop_zero]
  (apply g_K HL (Nat.le_refl _) (A := fun v => ∃ sl, v = .agg (nz Z0 sl)); (case hv => exact ⟨_, snil, rfl⟩); (case h1 => exact (fun hst W hA => step_callK hst rfl _ _ _ rfl rfl (fun ρ W hρ => by go_simp; done) (HZ.out W) rfl rfl fun e w1 ⟨v, h1, h2, h3⟩ => ⟨v, h1, h2.imp fun _ h => h.1, h3, by first | exact ⟨h2.mono hA.bw.size, trivial⟩ | exact trivial⟩)); rintro _ ⟨slz, rfl⟩; dsimp only [putO])
  iterate 2 ((apply g_det; (exact rfl); (exact rfl); (exact rfl); (exact rfl); focus (intro W0 hW0; (first | (refine o_skip rfl rfl rfl ?_) | (refine o_have rfl fun hw => ?_; (first | (refine o_assign hw.out _ rfl rfl rfl rfl ?_) | (refine o_move hw.out _ rfl rfl rfl rfl ?_) | (refine o_pickT hw.out _ _ _ rfl rfl rfl rfl rfl ?_) | (refine o_pickF hw.out _ _ _ rfl rfl rfl rfl rfl ?_) | (refine o_load_i hw.out _ rfl rfl (hi.on hW0) rfl rfl ?_) | (refine o_bin hw.out _ _ _ _ _ rfl rfl rfl rfl rfl (fun W => by go_simp; first | done | rfl) ?_) | (refine o_un hw.out _ _ _ rfl rfl rfl rfl (fun W => by go_simp; first | done | rfl) ?_) | (refine o_field hw.out _ _ _ rfl rfl rfl rfl (fun W => by go_simp; first | done | rfl) ?_) | (refine o_index hw.out _ _ _ rfl rfl rfl rfl rfl (fun W => by go_simp; first | done | rfl) ?_) | (refine o_conv hw.out _ _ _ rfl rfl rfl rfl (fun W => by go_simp; first | done | rfl) ?_)))); exact g_lk rfl)))
  (apply g_K HL (Nat.le_refl _) (A := fun v => ∃ sl, v = .agg (nz ⟨3, pb, DM⟩ sl)); (case hv => exact ⟨_, snil, rfl⟩); (case h1 => exact (fun hst W hA => step_callK hst rfl _ _ _ rfl rfl (fun ρ W hρ => by go_simp; done) (HS1.out _ W) rfl rfl fun e w1 ⟨v, h1, h2, h3⟩ => ⟨v, h1, h2.imp fun _ h => h.1, h3, by first | exact ⟨h2.mono hA.bw.size, trivial⟩ | exact trivial⟩)); rintro _ ⟨slM, rfl⟩; dsimp only [putO])
  (apply g_K HL (Nat.le_refl _) (A := fun v => ∃ g, v = pt g); (case hv => exact ⟨_, 0, rfl⟩); (case h1 => exact (fun hst W hA => step_new_n hst rfl rfl hA.bw.size fun v W1 h => ⟨h, trivial⟩)); rintro _ ⟨gM, rfl⟩; dsimp only [putO])
  refine g_endK (n := 5) (fun w1 hW hget => ?_)
  have ho := (((hget 3 _ _ _ _ (List.mem_of_getElem? (i := 0) rfl) (by omega) rfl rfl rfl)) : NumV _ _ _ _).own
  obtain ⟨hgM, hr⟩ := ((hget 4 _ _ _ _ (List.mem_of_getElem? (i := 1) rfl) (by omega) rfl rfl rfl) : NewN _ _ _).get
  have hb := hb.trans (hW.mono hb.size)
  have hi := hi.on hW
  have lthi := Nat.lt_of_lt_of_le hil hgM
  have hj := hj.on hW
  have lthj := Nat.lt_of_lt_of_le hjl hgM
  clear hget HL
  simp only [fr, app, pt, List.set_cons_succ, List.set_cons_zero]
  refine store_n rfl _ _ rfl rfl rfl ho.one hr ?_
  intro W8 hv hg9 hs9
  have ho := ho.only hg9 hr (by decide)
  have hi := hi.only hg9 (Nat.ne_of_lt lthi)
  have hj := hj.only hg9 (Nat.ne_of_lt lthj)
  have hb := below_only hb hg9 hb.size (Nat.le_trans hb0 hgM)
  clear hg9 hs9 hr
  have NM : NumAt _ _ _ ⟨3, pb, DM⟩ slM := ⟨hv, ho⟩
  have NMl := NM.lt
  have hil := hi.lt
  clear lthi
  have hjl := hj.lt
  clear lthj
  clear hv ho hb0 hgM
  go_wp2_with (first
    | (refine load_n rfl _ rfl rfl NM.row ?_)
    | (refine load_i rfl _ rfl rfl hj ?_)
    | (go_at_call 37; ((with_reducible refine (HS2.out _ _).mono ?_); rintro e W9 ⟨_, rfl, ⟨slN, rfl, ho⟩, hb4⟩; have NM := NM.on hb4; have hi := hi.on hb4; have hj := hj.on hb4; have hb := hb.trans (hb4.mono hb.size); clear hb4))
    | (refine alloc_n rfl rfl ?_; intro W10 hr hb5 hs5; have NMl := NM.lt; have hil := hi.lt; have hjl := hj.lt; have ho := ho.on hb5; have NM := NM.on hb5; have hi := hi.on hb5; have hj := hj.on hb5; have hgz := hb.size; have hb := hb.trans (hb5.mono hb.size); clear hb5 hs5)
    | (refine store_n rfl _ _ rfl rfl rfl ho.one hr ?_; intro W11 hv hg6 hs6; have ho := ho.only hg6 hr (by decide); have NM := NM.only hg6 hr (by decide) (by omega); have hi := hi.only hg6 (by omega); have hj := hj.only hg6 (by omega); have hb := below_only hb hg6 hb.size (by omega); clear hg6 hs6 hr)
    | fail)
  have NN : NumAt _ _ _ ⟨3, pb || qb, DN⟩ slN := ⟨hv, ho⟩
  clear hv ho NMl hil hjl hgz HZ HS1 HS2
  generalize W9.heap.size = gN at *
  generalize W8.heap.size = bN at *
  have HR : Hid (∀ W : World, Below W11.heap.size W11 W → Calls Try.prog 41 #[.agg (nc (pb || qb) slN 3 (pb || qb) DN)] W (Ret W (.bool true))) := fun W hW => num_right HNO.out (NN.own.slt.on hW)
  obtain ⟨adN, cN, rfl, sN⟩ := NN.own.slt
  have SN := Lib.hid sN
  clear sN
  cases pb with
  | true =>
    try simp only [Bool.true_or] at *
    refine head0 25 (by kernel_rfl) (by kernel_rfl) (by kernel_rfl) (by kernel_rfl) ?_
    simp only [List.take_succ_cons, List.take_zero, List.drop_succ_cons, List.drop_zero]
    (refine o_start ?_; (iterate 25 (first | (refine o_skip rfl rfl rfl ?_) | (refine o_have rfl fun hw => ?_; (first | (refine o_move hw.out _ rfl rfl rfl rfl ?_) | (refine o_pickT hw.out _ _ _ rfl rfl rfl rfl rfl ?_) | (refine o_pickF hw.out _ _ _ rfl rfl rfl rfl rfl ?_) | (refine o_loadc hw.out _ _ rfl rfl NM.c0 rfl rfl (by first | exact Try.underlying3 | exact Try.underlying4) rfl ?_) | (refine o_loadc hw.out _ _ rfl rfl NN.c0 rfl rfl (by first | exact Try.underlying3 | exact Try.underlying4) rfl ?_) | (refine o_loadc hw.out _ _ rfl rfl NN.c1 rfl rfl Try.underlying55 rfl ?_) | (refine o_load_i hw.out _ rfl rfl hi rfl rfl ?_) | (refine o_load_i hw.out _ rfl rfl hj rfl rfl ?_) | (refine o_len hw.out _ rfl rfl rfl rfl ?_) | (refine o_bin hw.out _ _ _ _ _ rfl rfl rfl rfl rfl (fun W => by go_simp; first | done | rfl) ?_) | (refine o_un hw.out _ _ _ rfl rfl rfl rfl (fun W => by go_simp; first | done | rfl) ?_) | (refine o_field hw.out _ _ _ rfl rfl rfl rfl (fun W => by go_simp; first | done | rfl) ?_) | (refine o_index hw.out _ _ _ rfl rfl rfl rfl rfl (fun W => by go_simp; first | done | rfl) ?_) | (refine o_conv hw.out _ _ _ rfl rfl rfl rfl (fun W => by go_simp; first | done | rfl) ?_) | (refine o_call hw.out _ _ _ rfl rfl (fun W hW => meets_any W) (by with_reducible rfl) (by with_reducible rfl) rfl rfl (fun ρ W hρ => by go_simp; done) ?_) | (refine o_call hw.out _ _ _ rfl rfl (fun W hW => HE1.out W) (by with_reducible rfl) (by with_reducible rfl) rfl rfl (fun ρ W hρ => by go_simp; done) ?_) | (refine o_call hw.out _ _ _ rfl rfl (fun W hW => HE2.out W) (by with_reducible rfl) (by with_reducible rfl) rfl rfl (fun ρ W hρ => by go_simp; done) ?_)); clear hw))); refine o_end ?_; simp only [app, List.set_cons_succ, List.set_cons_zero])
    intro w3 hb3
    have HB := Lib.hid (hb.trans (hb3.mono hb.size))
    have HJ := Lib.hid (hj.on hb3)
    have HNN := Lib.hid (NN.on hb3)
    have HW := Lib.hid hb3
    clear hb3 hb hi hj NM NN
    go_wp2
    go_loopw [14] (fun i_ wr => i_ = .int .i64 0 ∧ wr = w3) (fun _ _ => 0)
    case atStart => exact ⟨rfl, rfl⟩
    case round =>
      obtain ⟨rfl, rfl⟩ := hrel
      have c0 := HNN.out.c0
      go_wp2_with (first
        | (refine load_n rfl _ rfl rfl HNN.out.row ?_)
        | (go_at_call 41; ((with_reducible refine (HR.out _ HW.out).mono ?_); rintro e W14 ⟨rfl, hb9⟩; have HB := Lib.hid (HB.out.trans (hb9.mono HB.out.size)); clear hb9))
        | fail)
      go_ret
      exact ⟨rfl, HB.out⟩
  | false =>
    try simp only [Bool.false_or] at *
    cases qb with
    | true =>
      refine head0 25 (by kernel_rfl) (by kernel_rfl) (by kernel_rfl) (by kernel_rfl) ?_
      simp only [List.take_succ_cons, List.take_zero, List.drop_succ_cons, List.drop_zero]
      (refine o_start ?_; (iterate 25 (first | (refine o_skip rfl rfl rfl ?_) | (refine o_have rfl fun hw => ?_; (first | (refine o_move hw.out _ rfl rfl rfl rfl ?_) | (refine o_pickT hw.out _ _ _ rfl rfl rfl rfl rfl ?_) | (refine o_pickF hw.out _ _ _ rfl rfl rfl rfl rfl ?_) | (refine o_loadc hw.out _ _ rfl rfl NM.c0 rfl rfl (by first | exact Try.underlying3 | exact Try.underlying4) rfl ?_) | (refine o_loadc hw.out _ _ rfl rfl NN.c0 rfl rfl (by first | exact Try.underlying3 | exact Try.underlying4) rfl ?_) | (refine o_loadc hw.out _ _ rfl rfl NN.c1 rfl rfl Try.underlying55 rfl ?_) | (refine o_load_i hw.out _ rfl rfl hi rfl rfl ?_) | (refine o_load_i hw.out _ rfl rfl hj rfl rfl ?_) | (refine o_len hw.out _ rfl rfl rfl rfl ?_) | (refine o_bin hw.out _ _ _ _ _ rfl rfl rfl rfl rfl (fun W => by go_simp; first | done | rfl) ?_) | (refine o_un hw.out _ _ _ rfl rfl rfl rfl (fun W => by go_simp; first | done | rfl) ?_) | (refine o_field hw.out _ _ _ rfl rfl rfl rfl (fun W => by go_simp; first | done | rfl) ?_) | (refine o_index hw.out _ _ _ rfl rfl rfl rfl rfl (fun W => by go_simp; first | done | rfl) ?_) | (refine o_conv hw.out _ _ _ rfl rfl rfl rfl (fun W => by go_simp; first | done | rfl) ?_) | (refine o_call hw.out _ _ _ rfl rfl (fun W hW => meets_any W) (by with_reducible rfl) (by with_reducible rfl) rfl rfl (fun ρ W hρ => by go_simp; done) ?_) | (refine o_call hw.out _ _ _ rfl rfl (fun W hW => HE1.out W) (by with_reducible rfl) (by with_reducible rfl) rfl rfl (fun ρ W hρ => by go_simp; done) ?_) | (refine o_call hw.out _ _ _ rfl rfl (fun W hW => HE2.out W) (by with_reducible rfl) (by with_reducible rfl) rfl rfl (fun ρ W hρ => by go_simp; done) ?_)); clear hw))); refine o_end ?_; simp only [app, List.set_cons_succ, List.set_cons_zero])
      intro w3 hb3
      have HB := Lib.hid (hb.trans (hb3.mono hb.size))
      have HJ := Lib.hid (hj.on hb3)
      have HNN := Lib.hid (NN.on hb3)
      have HW := Lib.hid hb3
      clear hb3 hb hi hj NM NN
      go_wp2
      go_loopw [14] (fun i_ wr => i_ = .int .i64 0 ∧ wr = w3) (fun _ _ => 0)
      case atStart => exact ⟨rfl, rfl⟩
      case round =>
        obtain ⟨rfl, rfl⟩ := hrel
        have c0 := HNN.out.c0
        go_wp2_with (first
          | (refine load_n rfl _ rfl rfl HNN.out.row ?_)
          | (go_at_call 41; ((with_reducible refine (HR.out _ HW.out).mono ?_); rintro e W14 ⟨rfl, hb9⟩; have HB := Lib.hid (HB.out.trans (hb9.mono HB.out.size)); clear hb9))
          | fail)
        go_ret
        exact ⟨rfl, HB.out⟩
    | false =>
      refine head0 25 (by kernel_rfl) (by kernel_rfl) (by kernel_rfl) (by kernel_rfl) ?_
      simp only [List.take_succ_cons, List.take_zero, List.drop_succ_cons, List.drop_zero]
      (refine o_start ?_; (iterate 25 (first | (refine o_skip rfl rfl rfl ?_) | (refine o_have rfl fun hw => ?_; (first | (refine o_move hw.out _ rfl rfl rfl rfl ?_) | (refine o_pickT hw.out _ _ _ rfl rfl rfl rfl rfl ?_) | (refine o_pickF hw.out _ _ _ rfl rfl rfl rfl rfl ?_) | (refine o_loadc hw.out _ _ rfl rfl NM.c0 rfl rfl (by first | exact Try.underlying3 | exact Try.underlying4) rfl ?_) | (refine o_loadc hw.out _ _ rfl rfl NN.c0 rfl rfl (by first | exact Try.underlying3 | exact Try.underlying4) rfl ?_) | (refine o_loadc hw.out _ _ rfl rfl NN.c1 rfl rfl Try.underlying55 rfl ?_) | (refine o_load_i hw.out _ rfl rfl hi rfl rfl ?_) | (refine o_load_i hw.out _ rfl rfl hj rfl rfl ?_) | (refine o_len hw.out _ rfl rfl rfl rfl ?_) | (refine o_bin hw.out _ _ _ _ _ rfl rfl rfl rfl rfl (fun W => by go_simp; first | done | rfl) ?_) | (refine o_un hw.out _ _ _ rfl rfl rfl rfl (fun W => by go_simp; first | done | rfl) ?_) | (refine o_field hw.out _ _ _ rfl rfl rfl rfl (fun W => by go_simp; first | done | rfl) ?_) | (refine o_index hw.out _ _ _ rfl rfl rfl rfl rfl (fun W => by go_simp; first | done | rfl) ?_) | (refine o_conv hw.out _ _ _ rfl rfl rfl rfl (fun W => by go_simp; first | done | rfl) ?_) | (refine o_call hw.out _ _ _ rfl rfl (fun W hW => meets_any W) (by with_reducible rfl) (by with_reducible rfl) rfl rfl (fun ρ W hρ => by go_simp; done) ?_) | (refine o_call hw.out _ _ _ rfl rfl (fun W hW => HE1.out W) (by with_reducible rfl) (by with_reducible rfl) rfl rfl (fun ρ W hρ => by go_simp; done) ?_) | (refine o_call hw.out _ _ _ rfl rfl (fun W hW => HE2.out W) (by with_reducible rfl) (by with_reducible rfl) rfl rfl (fun ρ W hρ => by go_simp; done) ?_)); clear hw))); refine o_end ?_; simp only [app, List.set_cons_succ, List.set_cons_zero])
      intro w3 hb3
      have HB := Lib.hid (hb.trans (hb3.mono hb.size))
      have HJ := Lib.hid (hj.on hb3)
      have HNN := Lib.hid (NN.on hb3)
      have HW := Lib.hid hb3
      clear hb3 hb hi hj NM NN
      go_wp2
      go_loopw [14] (fun i_ wr => ∃ v : Nat, v ≤ 3 ∧ i_ = .int .i64 (v : Int) ∧ Hid (Below w.heap.size w wr) ∧ Hid (RowAt 32 wr g11 (ic t1 t2)) ∧ Hid (NumAt wr gN bN ⟨3, false, DN⟩ (.slice adN 3 cN)) ∧ Hid (Below W11.heap.size W11 wr)) (fun i _ => 4 - (intOf i).toNat)
      case atStart => exact ⟨0, by omega, rfl, HB, HJ, HNN, HW⟩
      case round =>
        clear HB HJ HNN HW
        obtain ⟨v, hv, rfl, HB, HJ, HNN, HW⟩ := hrel
        by_cases hlt : v < 3
        · obtain ⟨bb, rfl, hx⟩ := SN.out v hlt
          rw [show itvs ⟨3, false, DN⟩ v = if v = k then (t1, t2) else (0, 0) from HNI.out (by first | trivial | rfl) v hlt] at hx
          have C0 := Lib.hid HNN.out.c0
          have c0 := C0.out
          have IX : Hid (∀ W, (Instr.indexAt 55 (.slice (some ⟨bb, 0, none⟩) 3 cN) (.int .i64 (v : Int))).run Try.prog W = .ok (.pointer (some ⟨bb, v * 2, none⟩)) W) := fun W => run_index_t (k := v) rfl hlt W
          by_cases hvk : v = k
          · subst hvk
            rw [if_pos rfl] at hx
            have XX := Lib.hid (And.intro ((HW.out.cell (p := ⟨bb, v * 2, none⟩) (block_lt_of_cell hx.1)).trans hx.1) ((HW.out.cell (p := ⟨bb, v * 2 + 1, none⟩) (block_lt_of_cell hx.2)).trans hx.2))
            clear hx
            go_wp2
            clear c0
            refine head0 25 (by kernel_rfl) (by kernel_rfl) (by kernel_rfl) (by kernel_rfl) ?_
            simp only [List.take_succ_cons, List.take_zero, List.drop_succ_cons, List.drop_zero]
            (refine o_start ?_; (iterate 25 (first | (refine o_skip rfl rfl rfl ?_) | (refine o_have rfl fun hw => ?_; (first | (refine o_move hw.out _ rfl rfl rfl rfl ?_) | (refine o_pickT hw.out _ _ _ rfl rfl rfl rfl rfl ?_) | (refine o_pickF hw.out _ _ _ rfl rfl rfl rfl rfl ?_) | (refine o_loadc hw.out _ _ rfl rfl HNN.out.c1 rfl rfl Try.underlying55 rfl ?_) | (refine o_load_i hw.out _ rfl rfl HJ.out rfl rfl ?_) | (refine o_index hw.out _ _ _ rfl rfl rfl rfl rfl (fun W => IX.out W) ?_) | (refine o_load_two hw.out _ rfl rfl XX.out rfl rfl ?_) | (refine o_bin hw.out _ _ _ _ _ rfl rfl rfl rfl rfl (fun W => by go_simp; first | done | rfl) ?_) | (refine o_un hw.out _ _ _ rfl rfl rfl rfl (fun W => by go_simp; first | done | rfl) ?_) | (refine o_field hw.out _ _ _ rfl rfl rfl rfl (fun W => by go_simp; first | done | rfl) ?_) | (refine o_index hw.out _ _ _ rfl rfl rfl rfl rfl (fun W => by go_simp; first | done | rfl) ?_) | (refine o_conv hw.out _ _ _ rfl rfl rfl rfl (fun W => by go_simp; first | done | rfl) ?_) | (refine o_call hw.out _ _ _ rfl rfl (fun W hW => HC0.out W) (by with_reducible rfl) (by with_reducible rfl) rfl rfl (fun ρ W hρ => by go_simp; done) ?_)); clear hw))); refine o_end ?_; simp only [app, List.set_cons_succ, List.set_cons_zero])
            intro w4 hb4
            have HB := Lib.hid (HB.out.trans (hb4.mono HB.out.size))
            have HJ := Lib.hid (HJ.out.on hb4)
            have HNN := Lib.hid (HNN.out.on hb4)
            have HW := Lib.hid (HW.out.trans (hb4.mono HW.out.size))
            clear hb4 XX IX C0
            go_wp2
            go_roundw
            case rel => exact ⟨v + 1, by omega, by go_num, HB, HJ, HNN, HW⟩
            case measure => simp [intOf]; omega
          · rw [if_neg hvk] at hx
            have n1 : ((v : Int) == (k : Int)) = false := by simp; omega
            have n2 : ((v : Int) != (k : Int)) = true := by simp; omega
            have XX := Lib.hid (And.intro ((HW.out.cell (p := ⟨bb, v * 2, none⟩) (block_lt_of_cell hx.1)).trans hx.1) ((HW.out.cell (p := ⟨bb, v * 2 + 1, none⟩) (block_lt_of_cell hx.2)).trans hx.2))
            clear hx
            go_wp2
            clear c0
            refine head0 25 (by kernel_rfl) (by kernel_rfl) (by kernel_rfl) (by kernel_rfl) ?_
            simp only [List.take_succ_cons, List.take_zero, List.drop_succ_cons, List.drop_zero]
            (refine o_start ?_; (iterate 25 (first | (refine o_skip rfl rfl rfl ?_) | (refine o_have rfl fun hw => ?_; (first | (refine o_move hw.out _ rfl rfl rfl rfl ?_) | (refine o_pickT hw.out _ _ _ rfl rfl rfl rfl rfl ?_) | (refine o_pickF hw.out _ _ _ rfl rfl rfl rfl rfl ?_) | (refine o_loadc hw.out _ _ rfl rfl HNN.out.c1 rfl rfl Try.underlying55 rfl ?_) | (refine o_load_i hw.out _ rfl rfl HJ.out rfl rfl ?_) | (refine o_index hw.out _ _ _ rfl rfl rfl rfl rfl (fun W => IX.out W) ?_) | (refine o_load_two hw.out _ rfl rfl XX.out rfl rfl ?_) | (refine o_bin hw.out _ _ _ _ _ rfl rfl rfl rfl rfl (fun W => by go_simp; first | done | rfl) ?_) | (refine o_un hw.out _ _ _ rfl rfl rfl rfl (fun W => by go_simp; first | done | rfl) ?_) | (refine o_field hw.out _ _ _ rfl rfl rfl rfl (fun W => by go_simp; first | done | rfl) ?_) | (refine o_index hw.out _ _ _ rfl rfl rfl rfl rfl (fun W => by go_simp; first | done | rfl) ?_) | (refine o_conv hw.out _ _ _ rfl rfl rfl rfl (fun W => by go_simp; first | done | rfl) ?_) | (refine o_call hw.out _ _ _ rfl rfl (fun W hW => HC0.out W) (by with_reducible rfl) (by with_reducible rfl) rfl rfl (fun ρ W hρ => by go_simp; done) ?_)); clear hw))); refine o_end ?_; simp only [app, List.set_cons_succ, List.set_cons_zero])
            intro w4 hb4
            have HB := Lib.hid (HB.out.trans (hb4.mono HB.out.size))
            have HJ := Lib.hid (HJ.out.on hb4)
            have HNN := Lib.hid (HNN.out.on hb4)
            have HW := Lib.hid (HW.out.trans (hb4.mono HW.out.size))
            clear hb4 XX IX C0
            go_wp2
            go_roundw
            case rel => exact ⟨v + 1, by omega, by go_num, HB, HJ, HNN, HW⟩
            case measure => simp [intOf]; omega
        · obtain rfl : v = 3 := by omega
          have c0 := HNN.out.c0
          go_wp2_with (first
            | (refine load_n rfl _ rfl rfl HNN.out.row ?_)
            | (go_at_call 41; ((with_reducible refine (HR.out _ HW.out).mono ?_); rintro e W14 ⟨rfl, hb9⟩; have HB := Lib.hid (HB.out.trans (hb9.mono HB.out.size)); clear hb9))
            | fail)
          go_ret
          exact ⟨rfl, HB.out⟩
end Go.Proofs.Ytgnkhncogfppgaa
