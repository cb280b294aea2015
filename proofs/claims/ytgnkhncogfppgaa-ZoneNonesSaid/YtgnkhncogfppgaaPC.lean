/-
  PROVED: for every two ints and every int32, jetsamlaw09.ZoneNones returns true and its arguments read afterwards as before. No condition.
-/
import Derived.Test.YtgnkhncogfppgaaR1
import Derived.Test.YtgnkhncogfppgaaLC
namespace Go.Proofs.Ytgnkhncogfppgaa
open Go.ChangeShapes Go.WideShapes Go.ChangeAt Go.RowKit
set_option maxRecDepth 100000
theorem zoneNones_open {H : Type} {enc : TypeId × Value → H} {W : World} {args : Array Value} {ds : List (DataW H)} {p : List MemPlace} {base : Nat}
    (hA : DataW.TrodAll enc Try.prog W 0 (fun _ => true) true (#[3, 3, 21] : Array TypeId).toList args.toList ds p)
    (hval : ∀ (j : Nat) t v, (#[3, 3, 21] : Array TypeId)[j]? = some t → args[j]? = some v → Value.okWide Try.prog W .any base t v) : Calls Try.prog 15 args W (Ret W (.bool true)) := by
  obtain ⟨v0, v1, v2, d0, d1, d2, p0, p1, p2, rfl, rfl, rfl, h0, h1, h2⟩ := trodAll_three hA
  obtain ⟨x, rfl, rfl, rfl, wx⟩ := open_int Try.underlying3 (hval 0 3 v0 rfl rfl) h0
  obtain ⟨y, rfl, rfl, rfl, wy⟩ := open_int Try.underlying3 (hval 1 3 v1 rfl rfl) h1
  obtain ⟨b, rfl, rfl, rfl, wb⟩ := open_int Try.underlying21 (hval 2 21 v2 rfl rfl) h2
  have := bounds_i32 wb
  exact nones_walk x y b (by omega) (by omega) W
set_option maxRecDepth 100000 in
theorem zoneNones_lifted (os : Os) (started : os.Started) (H : Type) (enc : TypeId × Value → H) :
    ReturnsInHanded {} Try.checked os 15 .any (Rows.zoneNonesSpec.pre6 enc Try.prog Try.f15 Rows.zoneNonesRow.domain false) (Rows.zoneNonesSpec.post enc Try.prog Try.f15 false true false false) := by
  refine returnsInHanded_of_change (C := Try.checked) ownK started (by kernel_rfl) Try.func15
    (ChangeSpec.witness6 (enc := enc) (C := Try.checked) false ⟨#[], #[.int .i64 0, .int .i64 0, .int .i32 0], []⟩ 8 (by kernel_rfl) (by kernel_rfl) (by kernel_rfl) (by kernel_rfl)) ?_
  intro W base args ds gs before hval0 hW hcnd _
  have hval : ∀ (j : Nat) t v, Try.f15.params[j]? = some t → args[j]? = some v → Value.okWide Try.prog W .any base t v := hval0
  have hW' := hW
  obtain ⟨p, q, hA0, hV, rfl, hfz, hnd⟩ := hW
  obtain ⟨rfl, rfl⟩ := trodVars_none hV
  have hl := (trodAll_len hA0)
  have hA : DataW.TrodAll enc Try.prog W 0 (fun _ => true) true Try.f15.params.toList args.toList ds p := hA0
  rw [Try.params15] at hA hval
  refine (zoneNones_open hA hval).mono fun e W' ⟨he, hb⟩ => ?_
  subst he
  refine ⟨_, rfl, law_post laidOut hW' rfl ?_ (t := 4) (by kernel_rfl) Try.underlying4 (by kernel_rfl) hb⟩
  change ds.length = Try.f15.params.toList.length at hl
  rw [Try.params15] at hl
  match ds, hl with
  | [d0, d1, d2], _ => rfl
theorem zoneNones_holds : Rows.ZoneNonesSaid :=
  OpenClaim.holds_of_wide 15 Try.f15 rfl rfl rfl rfl rfl rfl rfl ⟨rfl, rfl, rfl, rfl, rfl⟩ rfl rfl rfl rfl rfl (by kernel_rfl) Try.func15 (by kernel_rfl)
    (of_decide_eq_true (by kernel_rfl)) (by unfold Func.isWrapper; rw [if_neg (of_decide_eq_false (by kernel_rfl))]; exact ⟨rfl, rfl⟩)
    (fun os started H enc _ => zoneNones_lifted os started H enc)
#print axioms zoneNones_holds
end Go.Proofs.Ytgnkhncogfppgaa
