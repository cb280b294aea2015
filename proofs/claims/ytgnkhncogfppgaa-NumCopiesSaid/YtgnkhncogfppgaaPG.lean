/-
  PROVED: for every two int32s and every uint8, jetsamlaw10.NumCopies returns true and its arguments read afterwards as before. No condition.
-/
import Derived.Test.YtgnkhncogfppgaaBH
import Derived.Test.YtgnkhncogfppgaaUD
namespace Go.Proofs.Ytgnkhncogfppgaa
open Go.ChangeShapes Go.WideShapes Go.ChangeAt Go.RowKit
set_option maxRecDepth 100000
theorem numCopies_open {H : Type} {enc : TypeId × Value → H} {W : World} {args : Array Value} {ds : List (DataW H)} {p : List MemPlace} {base : Nat}
    (hA : DataW.TrodAll enc Try.prog W 0 (fun _ => true) true (#[21, 21, 5] : Array TypeId).toList args.toList ds p)
    (hval : ∀ (j : Nat) t v, (#[21, 21, 5] : Array TypeId)[j]? = some t → args[j]? = some v → Value.okWide Try.prog W .any base t v) : Calls Try.prog 16 args W (Ret W (.bool true)) := by
  obtain ⟨v0, v1, v2, d0, d1, d2, p0, p1, p2, rfl, rfl, rfl, h0, h1, h2⟩ := trodAll_three hA
  obtain ⟨b, rfl, rfl, rfl, wb⟩ := open_int Try.underlying21 (hval 0 21 v0 rfl rfl) h0
  obtain ⟨x, rfl, rfl, rfl, wx⟩ := open_int Try.underlying21 (hval 1 21 v1 rfl rfl) h1
  obtain ⟨y, rfl, rfl, rfl, wy⟩ := open_int Try.underlying5 (hval 2 5 v2 rfl rfl) h2
  have := bounds_i32 wx
  have := bounds_u8 wy
  have := bounds_i32 wb
  exact ncopies_walk b x y (by omega) (by omega) (by omega) (by omega) (by omega) (by omega) W
set_option maxRecDepth 100000 in
theorem numCopies_lifted (os : Os) (started : os.Started) (H : Type) (enc : TypeId × Value → H) :
    ReturnsInHanded {} Try.checked os 16 .any (Rows.numCopiesSpec.pre6 enc Try.prog Try.f16 Rows.numCopiesRow.domain false) (Rows.numCopiesSpec.post enc Try.prog Try.f16 false true false false) := by
  refine returnsInHanded_of_change (C := Try.checked) ownK started (by kernel_rfl) Try.func16
    (ChangeSpec.witness6 (enc := enc) (C := Try.checked) false ⟨#[], #[.int .i32 0, .int .i32 0, .int .u8 0], []⟩ 8 (by kernel_rfl) (by kernel_rfl) (by kernel_rfl) (by kernel_rfl)) ?_
  intro W base args ds gs before hval0 hW hcnd _
  have hval : ∀ (j : Nat) t v, Try.f16.params[j]? = some t → args[j]? = some v → Value.okWide Try.prog W .any base t v := hval0
  have hW' := hW
  obtain ⟨p, q, hA0, hV, rfl, hfz, hnd⟩ := hW
  obtain ⟨rfl, rfl⟩ := trodVars_none hV
  have hl := (trodAll_len hA0)
  have hA : DataW.TrodAll enc Try.prog W 0 (fun _ => true) true Try.f16.params.toList args.toList ds p := hA0
  rw [Try.params16] at hA hval
  refine (numCopies_open hA hval).mono fun e W' ⟨he, hb⟩ => ?_
  subst he
  refine ⟨_, rfl, law_post laidOut hW' rfl ?_ (t := 4) (by kernel_rfl) Try.underlying4 (by kernel_rfl) hb⟩
  change ds.length = Try.f16.params.toList.length at hl
  rw [Try.params16] at hl
  match ds, hl with
  | [d0, d1, d2], _ => rfl
theorem numCopies_holds : Rows.NumCopiesSaid :=
  OpenClaim.holds_of_wide 16 Try.f16 rfl rfl rfl rfl rfl rfl rfl ⟨rfl, rfl, rfl, rfl, rfl⟩ rfl rfl rfl rfl rfl (by kernel_rfl) Try.func16 (by kernel_rfl)
    (of_decide_eq_true (by kernel_rfl)) (by unfold Func.isWrapper; rw [if_neg (of_decide_eq_false (by kernel_rfl))]; exact ⟨rfl, rfl⟩)
    (fun os started H enc _ => numCopies_lifted os started H enc)
#print axioms numCopies_holds
end Go.Proofs.Ytgnkhncogfppgaa
