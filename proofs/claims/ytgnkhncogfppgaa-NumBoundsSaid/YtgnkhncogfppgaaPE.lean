/-
  PROVED: for every int32, uint8 and int32, jetsamlaw10.NumBounds returns true and its arguments read afterwards as before. No condition.
-/
import Derived.Test.YtgnkhncogfppgaaBH
import Derived.Test.YtgnkhncogfppgaaUB
namespace Go.Proofs.Ytgnkhncogfppgaa
open Go.ChangeShapes Go.WideShapes Go.ChangeAt Go.RowKit
set_option maxRecDepth 100000
theorem numBounds_open {H : Type} {enc : TypeId × Value → H} {W : World} {args : Array Value} {ds : List (DataW H)} {p : List MemPlace} {base : Nat}
    (hA : DataW.TrodAll enc Try.prog W 0 (fun _ => true) true (#[21, 5, 21] : Array TypeId).toList args.toList ds p)
    (hval : ∀ (j : Nat) t v, (#[21, 5, 21] : Array TypeId)[j]? = some t → args[j]? = some v → Value.okWide Try.prog W .any base t v) : Calls Try.prog 10 args W (Ret W (.bool true)) := by
  obtain ⟨v0, v1, v2, d0, d1, d2, p0, p1, p2, rfl, rfl, rfl, h0, h1, h2⟩ := trodAll_three hA
  obtain ⟨x, rfl, rfl, rfl, wx⟩ := open_int Try.underlying21 (hval 0 21 v0 rfl rfl) h0
  obtain ⟨y, rfl, rfl, rfl, wy⟩ := open_int Try.underlying5 (hval 1 5 v1 rfl rfl) h1
  obtain ⟨b, rfl, rfl, rfl, wb⟩ := open_int Try.underlying21 (hval 2 21 v2 rfl rfl) h2
  have := bounds_i32 wx
  have := bounds_u8 wy
  have := bounds_i32 wb
  exact bounds_walk x y b (by omega) (by omega) (by omega) (by omega) (by omega) (by omega) W
set_option maxRecDepth 100000 in
theorem numBounds_lifted (os : Os) (started : os.Started) (H : Type) (enc : TypeId × Value → H) :
    ReturnsInHanded {} Try.checked os 10 .any (Rows.numBoundsSpec.pre6 enc Try.prog Try.f10 Rows.numBoundsRow.domain false) (Rows.numBoundsSpec.post enc Try.prog Try.f10 false true false false) := by
  refine returnsInHanded_of_change (C := Try.checked) ownK started (by kernel_rfl) Try.func10
    (ChangeSpec.witness6 (enc := enc) (C := Try.checked) false ⟨#[], #[.int .i32 0, .int .u8 0, .int .i32 0], []⟩ 8 (by kernel_rfl) (by kernel_rfl) (by kernel_rfl) (by kernel_rfl)) ?_
  intro W base args ds gs before hval0 hW hcnd _
  have hval : ∀ (j : Nat) t v, Try.f10.params[j]? = some t → args[j]? = some v → Value.okWide Try.prog W .any base t v := hval0
  have hW' := hW
  obtain ⟨p, q, hA0, hV, rfl, hfz, hnd⟩ := hW
  obtain ⟨rfl, rfl⟩ := trodVars_none hV
  have hl := (trodAll_len hA0)
  have hA : DataW.TrodAll enc Try.prog W 0 (fun _ => true) true Try.f10.params.toList args.toList ds p := hA0
  rw [Try.params10] at hA hval
  refine (numBounds_open hA hval).mono fun e W' ⟨he, hb⟩ => ?_
  subst he
  refine ⟨_, rfl, law_post laidOut hW' rfl ?_ (t := 4) (by kernel_rfl) Try.underlying4 (by kernel_rfl) hb⟩
  change ds.length = Try.f10.params.toList.length at hl
  rw [Try.params10] at hl
  match ds, hl with
  | [d0, d1, d2], _ => rfl
theorem numBounds_holds : Rows.NumBoundsSaid :=
  OpenClaim.holds_of_wide 10 Try.f10 rfl rfl rfl rfl rfl rfl rfl ⟨rfl, rfl, rfl, rfl, rfl⟩ rfl rfl rfl rfl rfl (by kernel_rfl) Try.func10 (by kernel_rfl)
    (of_decide_eq_true (by kernel_rfl)) (by unfold Func.isWrapper; rw [if_neg (of_decide_eq_false (by kernel_rfl))]; exact ⟨rfl, rfl⟩)
    (fun os started H enc _ => numBounds_lifted os started H enc)
#print axioms numBounds_holds
end Go.Proofs.Ytgnkhncogfppgaa
