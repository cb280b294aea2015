/-
  PROVED: for every slice of int32s and every int32, jetsamlaw09.ZoneChains returns true and its arguments read afterwards as before. No condition.
-/
import Derived.Test.YtgnkhncogfppgaaR0
import Derived.OpenShut
import Derived.Test.YtgnkhncogfppgaaL3
namespace Go.Proofs.Ytgnkhncogfppgaa
open Go.ChangeShapes Go.WideShapes Go.ChangeAt Go.RowKit
set_option maxRecDepth 100000
section
variable {H : Type} {enc : TypeId × Value → H} {W : World}
/-- A slice of int32s among the arguments. -/
theorem open_i32 {v : Value} {d : DataW H} {p : List MemPlace} {base : Nat} (hok : Value.okWide Try.prog W .any base 22 v) (h : DataW.Trod enc Try.prog W 0 (fun _ => true) true 22 v d p) :
    ∃ ad len cap B, v = .slice ad len cap ∧ len ≤ 9223372036854775807 ∧ SlI32 W ad len B ∧ ∀ k, k < len → -2147483648 ≤ B k ∧ B k ≤ 2147483647 := by
  obtain ⟨a0, len, cap, rfl⟩ := okWide_slice Try.underlying22 hok
  obtain ⟨fuel, hf⟩ := h
  rcases open_ints Try.underlying22 Try.underlying21 (by kernel_rfl) hf with ⟨hcs, hx⟩ | ⟨a, len', cap', zs, hcs, _, hl, hm, hz, hx, hcell, hwz⟩
  · simp [Value.cells] at hcs
    obtain ⟨rfl, rfl, rfl⟩ := hcs
    exact ⟨none, 0, 0, fun _ => 0, rfl, by omega, fun k hk => by omega, fun k hk => by omega⟩
  · simp [Value.cells] at hcs
    obtain ⟨rfl, rfl, rfl⟩ := hcs
    have hm' : cap ≤ 9223372036854775807 := hm
    simp at hz
    refine ⟨some a, len, cap, fun k => zs.getD k 0, rfl, by omega, fun k hk => ?_, fun k hk => ?_⟩
    · obtain ⟨b, off, rfl, hc⟩ := ints_at hcell (by omega)
      exact ⟨b, off, rfl, hc k (by omega)⟩
    · have hw : (Lit.int .i32 (zs.getD k 0)).wf = true := hwz _ (by
        have hkz : k < zs.length := by omega
        rw [show zs.getD k 0 = zs[k] by simp [List.getD, hkz]]
        exact List.getElem_mem _)
      have := bounds_i32 hw
      omega
end
theorem zoneChains_open {H : Type} {enc : TypeId × Value → H} {W : World} {args : Array Value} {ds : List (DataW H)} {p : List MemPlace} {base : Nat}
    (hA : DataW.TrodAll enc Try.prog W 0 (fun _ => true) true (#[22, 21] : Array TypeId).toList args.toList ds p)
    (hval : ∀ (j : Nat) t v, (#[22, 21] : Array TypeId)[j]? = some t → args[j]? = some v → Value.okWide Try.prog W .any base t v) : Calls Try.prog 3 args W (Ret W (.bool true)) := by
  obtain ⟨v0, v1, d0, d1, p0, p1, rfl, rfl, rfl, h0, h1⟩ := trodAll_two hA
  obtain ⟨ad, len, cap, B, rfl, hl, hB, hBr⟩ := open_i32 (hval 0 22 v0 rfl rfl) h0
  obtain ⟨a, rfl, rfl, rfl, wa⟩ := open_int Try.underlying21 (hval 1 21 v1 rfl rfl) h1
  have := bounds_i32 wa
  exact chains_walk ad len cap hl B W hB hBr a (by omega) (by omega)
set_option maxRecDepth 100000 in
theorem zoneChains_lifted (os : Os) (started : os.Started) (H : Type) (enc : TypeId × Value → H) :
    ReturnsInHanded {} Try.checked os 3 .any (Rows.zoneChainsSpec.pre6 enc Try.prog Try.f3 Rows.zoneChainsRow.domain false) (Rows.zoneChainsSpec.post enc Try.prog Try.f3 false true false false) := by
  refine returnsInHanded_of_change (C := Try.checked) ownK started (by kernel_rfl) Try.func3
    (ChangeSpec.witness6 (enc := enc) (C := Try.checked) false ⟨#[], #[.slice none 0 0, .int .i32 0], []⟩ 8 (by kernel_rfl) (by kernel_rfl) (by kernel_rfl) (by kernel_rfl)) ?_
  intro W base args ds gs before hval0 hW hcnd _
  have hval : ∀ (j : Nat) t v, Try.f3.params[j]? = some t → args[j]? = some v → Value.okWide Try.prog W .any base t v := hval0
  have hW' := hW
  obtain ⟨p, q, hA0, hV, rfl, hfz, hnd⟩ := hW
  obtain ⟨rfl, rfl⟩ := trodVars_none hV
  have hl := (trodAll_len hA0)
  have hA : DataW.TrodAll enc Try.prog W 0 (fun _ => true) true Try.f3.params.toList args.toList ds p := hA0
  rw [Try.params3] at hA hval
  refine (zoneChains_open hA hval).mono fun e W' ⟨he, hb⟩ => ?_
  subst he
  refine ⟨_, rfl, law_post laidOut hW' rfl ?_ (t := 4) (by kernel_rfl) Try.underlying4 (by kernel_rfl) hb⟩
  change ds.length = Try.f3.params.toList.length at hl
  rw [Try.params3] at hl
  match ds, hl with
  | [d0, d1], _ => rfl
theorem zoneChains_holds : Rows.ZoneChainsSaid :=
  OpenClaim.holds_of_wide 3 Try.f3 rfl rfl rfl rfl rfl rfl rfl ⟨rfl, rfl, rfl, rfl, rfl⟩ rfl rfl rfl rfl rfl (by kernel_rfl) Try.func3 (by kernel_rfl)
    (of_decide_eq_true (by kernel_rfl)) (by unfold Func.isWrapper; rw [if_neg (of_decide_eq_false (by kernel_rfl))]; exact ⟨rfl, rfl⟩)
    (fun os started H enc _ => zoneChains_lifted os started H enc)
#print axioms zoneChains_holds
end Go.Proofs.Ytgnkhncogfppgaa
