/-
  PROVED: for every int and every slice of slices of acts, jetsamlaw09.ZoneWidens returns true and its arguments read afterwards as before. No condition.
-/
import Derived.Test.YtgnkhncogfppgaaBH
import Derived.Test.YtgnkhncogfppgaaLD
namespace Go.Proofs.Ytgnkhncogfppgaa
open Go.ChangeShapes Go.WideShapes Go.ChangeAt Go.RowKit Go.Deep
set_option maxRecDepth 100000
theorem rcs : Try.prog.cellsOf 36 = 1 := by kernel_rfl
/-- A slice of acts that was read: the cell is a slice. -/
theorem row_of {H : Type} {enc : TypeId × Value → H} {W : World} {base : Nat} {held : Bool} {n : Nat} {cs : List Value} {y : DataW H × List MemPlace} (h : DataW.trod enc Try.prog W base (fun _ => true) held n 36 cs = some y) :
    ∃ ad len cap A, cs = [.slice ad len cap] ∧ len ≤ 9223372036854775807 ∧ SlA W ad len A := by
  rcases open_slice Try.underlying36 h with ⟨hcs, _⟩ | ⟨a, len', cap', m, n', D, Pl, hcs, _, hl, hm, hmm, _, hi⟩
  · subst hcs
    obtain ⟨h1, A, h2⟩ := acts_of h
    exact ⟨_, _, _, A, rfl, h1, h2⟩
  · subst hcs
    obtain ⟨h1, A, h2⟩ := acts_of h
    exact ⟨_, _, _, A, rfl, h1, h2⟩
theorem open_rows {H : Type} {enc : TypeId × Value → H} {W : World} {v : Value} {d : DataW H} {p : List MemPlace} {b0 : Nat} (hok : Value.okWide Try.prog W .any b0 87 v) (h : DataW.Trod enc Try.prog W 0 (fun _ => true) true 87 v d p) :
    ∃ ad len cap R A, v = .slice ad len cap ∧ len ≤ 9223372036854775807 ∧ SlR W ad len R A := by
  obtain ⟨a0, len, cap, rfl⟩ := okWide_slice Try.underlying87 hok
  obtain ⟨fuel, hf⟩ := h
  rcases open_slice Try.underlying87 hf with ⟨hcs, _⟩ | ⟨a, len', cap', m, n', D, Pl, hcs, _, hl, hm, hmm, _, hi⟩
  · simp [Value.cells] at hcs
    obtain ⟨rfl, rfl, rfl⟩ := hcs
    exact ⟨none, 0, 0, fun _ => (none, 0, 0), fun _ _ _ => 0, rfl, by omega, fun k hk => by omega⟩
  · simp [Value.cells] at hcs
    obtain ⟨rfl, rfl, rfl⟩ := hcs
    have hm' : cap ≤ 9223372036854775807 := hm
    simp at hmm
    have hk : ∀ k, ∃ V : (Option Addr × Nat × Nat) × (Nat → Nat → Int), k < len → ∃ b off, some a = some ⟨b, off, none⟩ ∧ W.cell? ⟨b, off + k, none⟩ = some (.slice V.1.1 V.1.2.1 V.1.2.2) ∧ V.1.2.1 ≤ 9223372036854775807 ∧ SlA W V.1.1 V.1.2.1 V.2 := fun k => by
      by_cases hkl : k < len
      · obtain ⟨cs', hc, ht⟩ := hi k (by omega)
        rw [rcs] at hc
        obtain ⟨_, hlen, hat⟩ := World.cells?_some hc
        obtain ⟨ad1, len1, cap1, A1, hcs1, hl1, hS1⟩ := row_of ht
        have hcell : W.cell? ((a.add (k * 1)).add 0) = some (.slice ad1 len1 cap1) := (hat 0 (by omega)).trans (by rw [hcs1]; rfl)
        have hspot : a.spot = none := by
          obtain ⟨cs0, hc0, ht0⟩ := hi 0 (by omega)
          rw [rcs] at hc0
          obtain ⟨_, _, hat0⟩ := World.cells?_some hc0
          obtain ⟨ad2, len2, cap2, A2, hcs2, _, _⟩ := row_of ht0
          have hcell0 : W.cell? ((a.add (0 * 1)).add 0) = some (.slice ad2 len2 cap2) := (hat0 0 (by omega)).trans (by rw [hcs2]; rfl)
          have := World.cell?_spot hcell0
          simpa [Addr.add] using this
        obtain ⟨b, off, spot⟩ := a
        obtain rfl : spot = none := hspot
        rw [Go.WideShapes.add_plain, Go.WideShapes.add_plain, Nat.mul_one, Nat.add_zero] at hcell
        exact ⟨((ad1, len1, cap1), A1), fun _ => ⟨b, off, rfl, hcell, hl1, hS1⟩⟩
      · exact ⟨((none, 0, 0), fun _ _ => 0), fun h => absurd h hkl⟩
    obtain ⟨V, hV⟩ := Classical.axiomOfChoice hk
    exact ⟨some a, len, cap, fun k => (V k).1, fun k => (V k).2, rfl, by omega, fun k hkl => hV k hkl⟩
theorem zoneWidens_open {H : Type} {enc : TypeId × Value → H} {W : World} {args : Array Value} {ds : List (DataW H)} {p : List MemPlace} {base : Nat}
    (hA : DataW.TrodAll enc Try.prog W 0 (fun _ => true) true (#[3, 87] : Array TypeId).toList args.toList ds p)
    (hval : ∀ (j : Nat) t v, (#[3, 87] : Array TypeId)[j]? = some t → args[j]? = some v → Value.okWide Try.prog W .any base t v) : Calls Try.prog 14 args W (Ret W (.bool true)) := by
  obtain ⟨v0, v1, d0, d1, p0, p1, rfl, rfl, rfl, h0, h1⟩ := trodAll_two hA
  obtain ⟨x, rfl, rfl, rfl, wx⟩ := open_int Try.underlying3 (hval 0 3 v0 rfl rfl) h0
  obtain ⟨ad, len, cap, R, A, rfl, hl, hS⟩ := open_rows (hval 1 87 v1 rfl rfl) h1
  exact widens_walk x ad len cap hl R A W hS
set_option maxRecDepth 100000 in
theorem zoneWidens_lifted (os : Os) (started : os.Started) (H : Type) (enc : TypeId × Value → H) :
    ReturnsInHanded {} Try.checked os 14 .any (Rows.zoneWidensSpec.pre6 enc Try.prog Try.f14 Rows.zoneWidensRow.domain false) (Rows.zoneWidensSpec.post enc Try.prog Try.f14 false true false false) := by
  refine returnsInHanded_of_change (C := Try.checked) ownK started (by kernel_rfl) Try.func14
    (ChangeSpec.witness6 (enc := enc) (C := Try.checked) false ⟨#[], #[.int .i64 0, .slice none 0 0], []⟩ 8 (by kernel_rfl) (by kernel_rfl) (by kernel_rfl) (by kernel_rfl)) ?_
  intro W base args ds gs before hval0 hW hcnd _
  have hval : ∀ (j : Nat) t v, Try.f14.params[j]? = some t → args[j]? = some v → Value.okWide Try.prog W .any base t v := hval0
  have hW' := hW
  obtain ⟨p, q, hA0, hV, rfl, hfz, hnd⟩ := hW
  obtain ⟨rfl, rfl⟩ := trodVars_none hV
  have hl := (trodAll_len hA0)
  have hA : DataW.TrodAll enc Try.prog W 0 (fun _ => true) true Try.f14.params.toList args.toList ds p := hA0
  rw [Try.params14] at hA hval
  refine (zoneWidens_open hA hval).mono fun e W' ⟨he, hb⟩ => ?_
  subst he
  refine ⟨_, rfl, law_post laidOut hW' rfl ?_ (t := 4) (by kernel_rfl) Try.underlying4 (by kernel_rfl) hb⟩
  change ds.length = Try.f14.params.toList.length at hl
  rw [Try.params14] at hl
  match ds, hl with
  | [d0, d1], _ => rfl
theorem zoneWidens_holds : Rows.ZoneWidensSaid :=
  OpenClaim.holds_of_wide 14 Try.f14 rfl rfl rfl rfl rfl rfl rfl ⟨rfl, rfl, rfl, rfl, rfl⟩ rfl rfl rfl rfl rfl (by kernel_rfl) Try.func14 (by kernel_rfl)
    (of_decide_eq_true (by kernel_rfl)) (by unfold Func.isWrapper; rw [if_neg (of_decide_eq_false (by kernel_rfl))]; exact ⟨rfl, rfl⟩)
    (fun os started H enc _ => zoneWidens_lifted os started H enc)
#print axioms zoneWidens_holds
end Go.Proofs.Ytgnkhncogfppgaa
