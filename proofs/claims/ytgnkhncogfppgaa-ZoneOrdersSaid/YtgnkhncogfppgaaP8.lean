/-
  PROVED: for all three acts, jetsamlaw09.ZoneOrders returns true and its arguments read afterwards as before. No condition.
-/
import Derived.Test.YtgnkhncogfppgaaR1
import Derived.Test.YtgnkhncogfppgaaL9
import Derived.Lib.SmallJoins
namespace Go.Proofs.Ytgnkhncogfppgaa
open Go.ChangeShapes Go.WideShapes Go.ChangeAt Go.RowKit Go.Deep Go.Joins
set_option maxRecDepth 100000
def act0 : Value := .agg #[.int .i64 0, .int .i64 0, .int .i64 0, .int .i64 0]
theorem one_int {x y : Value} (h : [x] = [y]) : x = y := by injection h
/-- An act that is handed by value. -/
theorem open_act {H : Type} {enc : TypeId × Value → H} {W : World} {base b0 : Nat} {spare : Nat → Bool} {held : Bool} {v : Value} {d : DataW H} {p : List MemPlace} (hok : Value.okWide Try.prog W .any b0 48 v) (h : DataW.Trod enc Try.prog W base spare held 48 v d p) :
    ∃ A : Nat → Int, v = .agg (ac A) := by
  obtain ⟨v0, v1, v2, v3, y0, y1, y2, y3, n, rfl, _, _, h0, h1, h2, h3⟩ := open_agg4 Try.underlying48 (by kernel_rfl) (by kernel_rfl) hok h
  obtain ⟨x0, e0, _, _⟩ := DataW.trod_int Try.underlying3 h0
  obtain ⟨x1, e1, _, _⟩ := DataW.trod_int Try.underlying3 h1
  obtain ⟨x2, e2, _, _⟩ := DataW.trod_int Try.underlying3 h2
  obtain ⟨x3, e3, _, _⟩ := DataW.trod_int Try.underlying3 h3
  rw [one_int e0, one_int e1, one_int e2, one_int e3]
  exact ⟨fun j => match j with | 0 => x0 | 1 => x1 | 2 => x2 | _ => x3, rfl⟩
theorem zoneOrders_open {H : Type} {enc : TypeId × Value → H} {W : World} {args : Array Value} {ds : List (DataW H)} {p : List MemPlace} {base : Nat}
    (hA : DataW.TrodAll enc Try.prog W 0 (fun _ => true) true (#[48, 48, 48] : Array TypeId).toList args.toList ds p)
    (hval : ∀ (j : Nat) t v, (#[48, 48, 48] : Array TypeId)[j]? = some t → args[j]? = some v → Value.okWide Try.prog W .any base t v) : Calls Try.prog 8 args W (Ret W (.bool true)) := by
  obtain ⟨v0, v1, v2, d0, d1, d2, p0, p1, p2, rfl, rfl, rfl, h0, h1, h2⟩ := trodAll_three hA
  obtain ⟨a, rfl⟩ := open_act (hval 0 _ v0 rfl rfl) h0
  obtain ⟨b, rfl⟩ := open_act (hval 1 _ v1 rfl rfl) h1
  obtain ⟨c, rfl⟩ := open_act (hval 2 _ v2 rfl rfl) h2
  exact orders_walk a b c W
set_option maxRecDepth 100000 in
theorem zoneOrders_lifted (os : Os) (started : os.Started) (H : Type) (enc : TypeId × Value → H) :
    ReturnsInHanded {} Try.checked os 8 .any (Rows.zoneOrdersSpec.pre6 enc Try.prog Try.f8 Rows.zoneOrdersRow.domain false) (Rows.zoneOrdersSpec.post enc Try.prog Try.f8 false true false false) := by
  refine returnsInHanded_of_change (C := Try.checked) ownK started (by kernel_rfl) Try.func8
    (ChangeSpec.witness6 (enc := enc) (C := Try.checked) false ⟨#[], #[act0, act0, act0], []⟩ 8 (by kernel_rfl) (by kernel_rfl) (by kernel_rfl) (by kernel_rfl)) ?_
  intro W base args ds gs before hval0 hW hcnd _
  have hval : ∀ (j : Nat) t v, Try.f8.params[j]? = some t → args[j]? = some v → Value.okWide Try.prog W .any base t v := hval0
  have hW' := hW
  obtain ⟨p, q, hA0, hV, rfl, hfz, hnd⟩ := hW
  obtain ⟨rfl, rfl⟩ := trodVars_none hV
  have hl := (trodAll_len hA0)
  have hA : DataW.TrodAll enc Try.prog W 0 (fun _ => true) true Try.f8.params.toList args.toList ds p := hA0
  rw [Try.params8] at hA hval
  refine (zoneOrders_open hA hval).mono fun e W' ⟨he, hb⟩ => ?_
  subst he
  refine ⟨_, rfl, law_post laidOut hW' rfl ?_ (t := 4) (by kernel_rfl) Try.underlying4 (by kernel_rfl) hb⟩
  change ds.length = Try.f8.params.toList.length at hl
  rw [Try.params8] at hl
  match ds, hl with
  | [d0, d1, d2], _ => rfl
theorem zoneOrders_holds : Rows.ZoneOrdersSaid :=
  OpenClaim.holds_of_wide 8 Try.f8 rfl rfl rfl rfl rfl rfl rfl ⟨rfl, rfl, rfl, rfl, rfl⟩ rfl rfl rfl rfl rfl (by kernel_rfl) Try.func8 (by kernel_rfl)
    (of_decide_eq_true (by kernel_rfl)) (by unfold Func.isWrapper; rw [if_neg (of_decide_eq_false (by kernel_rfl))]; exact ⟨rfl, rfl⟩)
    (fun os started H enc _ => zoneOrders_lifted os started H enc)
#print axioms zoneOrders_holds
end Go.Proofs.Ytgnkhncogfppgaa
