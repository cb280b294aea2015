import Derived.Test.YtgnkhncogfppgaaBF
import Derived.Test.YtgnkhncogfppgaaBE

namespace Go.Proofs.Ytgnkhncogfppgaa
open Go.RowKit
section
variable {ops : Array Oper} {rest : List Oper} {o : Oper} {a : Act} {w0 : World} {L : Act → Prop} {g : Nat} {T : TypeId}
theorem lex_load_ac (hw : Region.wanted o (yielded ops a.tmps) = true) (x : Operand) (ho : o.op = .load 48 x) (hx : a.eval x = .pointer (some ⟨g, 0, none⟩)) {A : Nat → Int} (hz : RowAt T w0 g (ac A))
    (h : lexQ Try.prog ops w0 L rest (a.put o.dst (.agg (ac A)))) : lexQ Try.prog ops w0 L (o :: rest) a :=
  lex_load_row hw 48 x ho g hx _ Try.underlying48 rfl hz asz h
end
set_option maxRecDepth 100000 in
set_option maxHeartbeats 2000000 in
theorem bnd_any {z : Zn} (h : z.n ≤ 6) (A : Nat → Int) (w : World) : Calls Try.prog 42 #[.agg z.c, .agg (ac A)] w (Ret w (.agg (bndZ z A).c)) := by
  obtain ⟨p, hp⟩ : ∃ p : Nat, (IntKind.u64.wrap (A 1)).toNat = p := ⟨_, rfl⟩
  obtain ⟨q, hq⟩ : ∃ q : Nat, (IntKind.u64.wrap (A 2)).toNat = q := ⟨_, rfl⟩
  have hpp : IntKind.u64.wrap (A 1) = (p : Int) := by rw [← hp]; exact u64_nat _
  have hqq : IntKind.u64.wrap (A 2) = (q : Int) := by rw [← hq]; exact u64_nat _
  obtain ⟨i, hi⟩ : ∃ i : Nat, p % 4 = i := ⟨_, rfl⟩
  obtain ⟨j, hj⟩ : ∃ j : Nat, q % 5 = j := ⟨_, rfl⟩
  obtain ⟨d, hd⟩ : ∃ d : Int, wrap32 (A 3) = d := ⟨_, rfl⟩
  have hfin : bndZ z A = if i + 1 = j then z else boundZ z (i : Int) ((j : Int) - 1) d := by unfold bndZ; rw [hp, hq, hi, hj, hd]
  have x1 : (p : Int) % 4 = (i : Int) := by omega
  have x2 : (q : Int) % 5 = (j : Int) := by omega
  have hi4 : i < 4 := by omega
  have hj5 : j < 5 := by omega
  obtain ⟨hd1, hd2⟩ : -2147483648 ≤ d ∧ d ≤ 2147483647 := by rw [← hd]; exact wrap32_bd _
  have hbc : ∀ W : World, Calls Try.prog 22 #[.agg (zc z.n z.none z.D), .int .i64 (i : Int), .int .i64 ((j : Int) - 1), .int .i64 d] W (Ret W (.agg (boundZ z (i : Int) ((j : Int) - 1) d).c)) := fun W => bound_any z h _ _ _ W
  rw [hfin]
  have HBC := Lib.hid hbc
  clear hp hq hi hj hfin hbc
  by_cases hij : i + 1 = j
  · rw [if_pos hij]
    have hne : ((i : Int) == (j : Int) - 1) = true := by simp; omega
    go_enter Try.func42, Try.ntmps42
    go_wp2_with (first
      | (refine wpList_box_zone rfl 26 _ rfl _ _ _ rfl ?_; intro W1 hz hb hs1)
      | (refine box_row rfl 48 _ rfl _ rfl ?_; intro W2 hr hb2 hs2; rw [hs1.out] at hr hb2 hs2; rw [hs1.out]; have hz := hz.below hb2 (by omega); have hb := hb.trans (hb2.mono (by omega)); clear hb2)
      | (refine wpList_alloc_zone rfl 26 rfl zz ?_; intro W3 hu hb3 hs3; rw [hs2.out] at hu hb3 hs3; rw [hs2.out]; have hz := hz.below hb3 (by omega); have hr := hr.below hb3 (by omega); have hb := hb.trans (hb3.mono (by omega)); clear hb3)
      | fail)
    have c1 := hr.cell 1
    have c2 := hr.cell 2
    simp only [ac, List.getElem?_toArray, List.getElem?_cons_zero, List.getElem?_cons_succ] at c1 c2
    simp only [Act.put, List.setIfInBounds_toArray, List.set_cons_succ, List.set_cons_zero]
    go_region
    have hz := hz.drew
    have hu := hu.drew
    have hb := hb.drew
    clear c1 c2 hr hs1 hs2 hs3
    generalize W3.drew = w3 at *
    go_wp2_with (first
      | (refine load_z rfl _ rfl rfl hz ?_)
      | (refine store_z rfl _ _ rfl rfl rfl hu ?_; intro W4 hz4 hg4 hs4)
      | fail)
    exact bodyPost_ret (results_z rfl (by simp [Act.put]) hz4) rfl ⟨rfl, below_only hb hg4 hb.size (by omega)⟩
  · rw [if_neg hij]
    have hne : ((i : Int) == (j : Int) - 1) = false := by simp; omega
    go_enter Try.func42, Try.ntmps42
    go_wp2_with (first
      | (refine wpList_box_zone rfl 26 _ rfl _ _ _ rfl ?_; intro W1 hz hb hs1)
      | (refine box_row rfl 48 _ rfl _ rfl ?_; intro W2 hr hb2 hs2; rw [hs1.out] at hr hb2 hs2; rw [hs1.out]; have hz := hz.below hb2 (by omega); have hb := hb.trans (hb2.mono (by omega)); clear hb2)
      | (refine wpList_alloc_zone rfl 26 rfl zz ?_; intro W3 hu hb3 hs3; rw [hs2.out] at hu hb3 hs3; rw [hs2.out]; have hz := hz.below hb3 (by omega); have hr := hr.below hb3 (by omega); have hb := hb.trans (hb3.mono (by omega)); clear hb3)
      | fail)
    have c1 := hr.cell 1
    have c2 := hr.cell 2
    simp only [ac, List.getElem?_toArray, List.getElem?_cons_zero, List.getElem?_cons_succ] at c1 c2
    simp only [Act.put, List.setIfInBounds_toArray, List.set_cons_succ, List.set_cons_zero]
    go_region
    have hz := hz.drew
    have hu := hu.drew
    have hb := hb.drew
    have hr := hr.drew
    have c3 := hr.cell 3
    simp only [ac, List.getElem?_toArray, List.getElem?_cons_zero, List.getElem?_cons_succ] at c3
    clear c1 c2 hs1 hs2 hs3
    generalize W3.drew = w3 at *
    go_wp2_with (first
      | (refine load_z rfl _ rfl rfl hz ?_)
      | (go_at_call 22; ((with_reducible refine (HBC.out _).mono ?_); rintro e W5 ⟨rfl, hb5⟩; have hz := hz.on hb5; have hu := hu.on hb5; have hb := hb.trans (hb5.mono hb.size); clear hb5))
      | (refine store_z rfl _ _ rfl rfl rfl hu ?_; intro W4 hz4 hg4 hs4)
      | fail)
    exact bodyPost_ret (results_z rfl (by simp [Act.put]) hz4) rfl ⟨rfl, below_only hb hg4 hb.size (by omega)⟩
end Go.Proofs.Ytgnkhncogfppgaa
