/-
  PROVED: for every int, every six int32s and every slice of acts, jetsamlaw09.ZoneHas returns true and its arguments read afterwards as before. No condition.
-/
import Derived.Test.YtgnkhncogfppgaaBH
import Derived.Test.YtgnkhncogfppgaaLE
namespace Go.Proofs.Ytgnkhncogfppgaa
open Go.ChangeShapes Go.WideShapes Go.ChangeAt Go.RowKit
set_option maxRecDepth 100000
def six0 : Value := .agg (av fun _ => 0)
/-- Six int32s that are handed by value. -/
theorem open_six {H : Type} {enc : TypeId × Value → H} {W : World} {base b0 : Nat} {spare : Nat → Bool} {held : Bool} {v : Value} {d : DataW H} {p : List MemPlace} (hok : Value.okWide Try.prog W .any b0 46 v) (h : DataW.Trod enc Try.prog W base spare held 46 v d p) :
    ∃ V : Nat → Int, v = .agg (av V) ∧ ∀ i, i < 6 → -2147483648 ≤ V i ∧ V i ≤ 2147483647 := by
  have hok' := hok
  simp only [Value.okWide, Try.underlying46] at hok'
  obtain ⟨cs, rfl, hsz, _⟩ := hok'
  obtain ⟨fuel, hf⟩ := h
  obtain ⟨xs, m, _, _, hlen, hxs, hi⟩ := DataW.trod_array Try.underlying46 hf
  rw [show Try.prog.cellsOf 21 = 1 by kernel_rfl] at hi
  rw [show Try.prog.cellsOf 46 = 6 by kernel_rfl] at hlen
  have hl : cs.toList.length = 6 := by simpa [Value.cells] using hlen
  have hk : ∀ i, ∃ n : Int, i < 6 → cs[i]? = some (.int .i32 n) ∧ -2147483648 ≤ n ∧ n ≤ 2147483647 := fun i => by
    by_cases h6 : i < 6
    · have hx := hi i h6
      rw [List.getElem?_eq_getElem (by omega)] at hx
      obtain ⟨n, hn, _, hw⟩ := DataW.trod_int Try.underlying21 hx
      have hb := bounds_i32 hw
      refine ⟨n, fun _ => ⟨?_, by omega, by omega⟩⟩
      have h0 := congrArg (fun l : List Value => l[0]?) hn
      simpa [List.getElem?_take, List.getElem?_drop, Value.cells] using h0
    · exact ⟨0, fun h => absurd h h6⟩
  obtain ⟨V, hV⟩ := Classical.axiomOfChoice hk
  refine ⟨V, ?_, fun i h6 => (hV i h6).2⟩
  congr 1
  refine Array.ext' (List.ext_getElem? fun i => ?_)
  by_cases h6 : i < 6
  · rw [Array.getElem?_toList, Array.getElem?_toList, (hV i h6).1, av_get V i h6]
  · rw [List.getElem?_eq_none (by omega), List.getElem?_eq_none (by simp [av]; omega)]
theorem zoneHas_open {H : Type} {enc : TypeId × Value → H} {W : World} {args : Array Value} {ds : List (DataW H)} {p : List MemPlace} {base : Nat}
    (hA : DataW.TrodAll enc Try.prog W 0 (fun _ => true) true (#[3, 46, 36] : Array TypeId).toList args.toList ds p)
    (hval : ∀ (j : Nat) t v, (#[3, 46, 36] : Array TypeId)[j]? = some t → args[j]? = some v → Value.okWide Try.prog W .any base t v) : Calls Try.prog 5 args W (Ret W (.bool true)) := by
  obtain ⟨v0, v1, v2, d0, d1, d2, p0, p1, p2, rfl, rfl, rfl, h0, h1, h2⟩ := trodAll_three hA
  obtain ⟨x, rfl, rfl, rfl, wx⟩ := open_int Try.underlying3 (hval 0 3 v0 rfl rfl) h0
  obtain ⟨V, rfl, hV⟩ := open_six (hval 1 _ v1 rfl rfl) h1
  obtain ⟨ad, len, cap, A, rfl, hl, hS⟩ := open_acts (hval 2 36 v2 rfl rfl) h2
  exact has_walk x V hV ad len cap hl A W hS
set_option maxRecDepth 100000 in
theorem zoneHas_lifted (os : Os) (started : os.Started) (H : Type) (enc : TypeId × Value → H) :
    ReturnsInHanded {} Try.checked os 5 .any (Rows.zoneHasSpec.pre6 enc Try.prog Try.f5 Rows.zoneHasRow.domain false) (Rows.zoneHasSpec.post enc Try.prog Try.f5 false true false false) := by
  refine returnsInHanded_of_change (C := Try.checked) ownK started (by kernel_rfl) Try.func5
    (ChangeSpec.witness6 (enc := enc) (C := Try.checked) false ⟨#[], #[.int .i64 0, six0, .slice none 0 0], []⟩ 8 (by kernel_rfl) (by kernel_rfl) (by kernel_rfl) (by kernel_rfl)) ?_
  intro W base args ds gs before hval0 hW hcnd _
  have hval : ∀ (j : Nat) t v, Try.f5.params[j]? = some t → args[j]? = some v → Value.okWide Try.prog W .any base t v := hval0
  have hW' := hW
  obtain ⟨p, q, hA0, hV, rfl, hfz, hnd⟩ := hW
  obtain ⟨rfl, rfl⟩ := trodVars_none hV
  have hl := (trodAll_len hA0)
  have hA : DataW.TrodAll enc Try.prog W 0 (fun _ => true) true Try.f5.params.toList args.toList ds p := hA0
  rw [Try.params5] at hA hval
  refine (zoneHas_open hA hval).mono fun e W' ⟨he, hb⟩ => ?_
  subst he
  refine ⟨_, rfl, law_post laidOut hW' rfl ?_ (t := 4) (by kernel_rfl) Try.underlying4 (by kernel_rfl) hb⟩
  change ds.length = Try.f5.params.toList.length at hl
  rw [Try.params5] at hl
  match ds, hl with
  | [d0, d1, d2], _ => rfl
theorem zoneHas_holds : Rows.ZoneHasSaid :=
  OpenClaim.holds_of_wide 5 Try.f5 rfl rfl rfl rfl rfl rfl rfl ⟨rfl, rfl, rfl, rfl, rfl⟩ rfl rfl rfl rfl rfl (by kernel_rfl) Try.func5 (by kernel_rfl)
    (of_decide_eq_true (by kernel_rfl)) (by unfold Func.isWrapper; rw [if_neg (of_decide_eq_false (by kernel_rfl))]; exact ⟨rfl, rfl⟩)
    (fun os started H enc _ => zoneHas_lifted os started H enc)
#print axioms zoneHas_holds
end Go.Proofs.Ytgnkhncogfppgaa
