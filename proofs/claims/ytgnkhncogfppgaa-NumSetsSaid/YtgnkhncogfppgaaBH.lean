import Derived.Test.YtgnkhncogfppgaaRows
import Derived.ProofKit
import Derived.Carry
import Derived.Test.YtgnkhncogfppgaaBD
import Derived.Deep.Slices
import Derived.OpenShut
namespace Go.Proofs.Ytgnkhncogfppgaa
open Go.ChangeShapes Go.WideShapes Go.ChangeAt Go.RowKit
theorem ownK : ownKnob Try.prog.godebug = none := by kernel_rfl
theorem laidOut : laidOutB Try.prog = true := by kernel_rfl
section
variable {H : Type} {enc : TypeId × Value → H} {P : Program}
/-- All arguments read as they did where of what was there nothing has turned. -/
theorem trodAll_kept (hl : laidOutB P = true) {W W' : World} (hb : Below W.heap.size W W') : ∀ {ts : List TypeId} {vs : List Value} {ds : List (DataW H)} {ps : List MemPlace}, (ts.all fun t => P.readableRec t && decide (t < P.types.size)) = true →
    DataW.TrodAll enc P W 0 (fun _ => true) true ts vs ds ps → (∀ x ∈ ps, x.block < W.heap.size) → DataW.TrodAll enc P W' 0 (fun b => decide (b < W.heap.size)) true ts vs ds ps
  | [], [], [], _, _, h, _ => h
  | [], [], _ :: _, _, _, h, _ => h.elim
  | [], _ :: _, _, _, _, h, _ => h.elim
  | _ :: _, [], _, _, _, h, _ => h.elim
  | _ :: _, _ :: _, [], _, _, h, _ => h.elim
  | t :: ts, v :: vs, d :: ds, _, ht, ⟨p, q, h1, h2, e⟩, hlt => by
    subst e
    simp only [List.all_cons, Bool.and_eq_true, decide_eq_true_eq] at ht
    exact ⟨p, q, Below.trod hl ht.1.1 ht.1.2 h1 hb (fun x hx => hlt x (by simp [hx])), trodAll_kept hl hb ht.2 h2 (fun x hx => hlt x (by simp [hx])), rfl⟩
theorem trodAll_len {w : World} {base : Nat} {sp : Nat → Bool} {held : Bool} : ∀ {ts : List TypeId} {vs : List Value} {ds : List (DataW H)} {ps : List MemPlace}, DataW.TrodAll enc P w base sp held ts vs ds ps → ds.length = ts.length
  | [], [], [], _, _ => rfl
  | [], [], _ :: _, _, h => h.elim
  | [], _ :: _, _, _, h => h.elim
  | _ :: _, [], _, _, h => h.elim
  | _ :: _, _ :: _, [], _, h => h.elim
  | _ :: _, _ :: _, _ :: _, _, ⟨_, _, _, h, _⟩ => by simp [trodAll_len h]
/-- A law that answers true and turns nothing that was there. -/
theorem law_post (hl : laidOutB P = true) {f : Func} {s : ChangeSpec} {W W' : World} {args : Array Value} {ds : List (DataW H)} {before : List MemPlace} (hW : DataW.Whole enc P f.params.toList s.vars false W args.toList ds [] before)
    (hvars : s.vars = []) (hs : s.fn H (ds ++ []) = { results := [.lit (.bool true)], args := ds }) {t : TypeId} (hr : f.resultTypes = #[t]) (ht : P.underlying t = some .bool)
    (hts : (f.params.toList.all fun t => P.readableRec t && decide (t < P.types.size)) = true) (hb : Below W.heap.size W W') : s.post enc P f false true false false W args (.bool true) W' := by
  have hW' := hW
  obtain ⟨p, q, hA, hV, e, _, _⟩ := hW'
  rw [hvars] at hV
  obtain ⟨_, rfl⟩ := trodVars_none hV
  refine ⟨ds, [], before, [], p, [], hW, ?_, ?_, ?_, hb.frame _, fun h => by cases h⟩
  · rw [hs, hr]
    exact trodAll_mk1 (shut_bool ht true)
  · rw [hs]
    exact trodAll_kept hl hb hts hA (fun x hx => hW.lt x (by rw [e]; simp [hx]))
  · rw [hs, hvars]
    rfl
end
end Go.Proofs.Ytgnkhncogfppgaa

namespace Go.Proofs.Ytgnkhncogfppgaa
open Go.ChangeShapes Go.WideShapes Go.ChangeAt Go.RowKit Go.Deep
set_option maxRecDepth 100000
section
variable {H : Type} {enc : TypeId × Value → H} {W : World} {base : Nat} {spare : Nat → Bool} {held : Bool}
/-- One number at a place of a list of cells. -/
theorem int_at {cs : List Value} {j n : Nat} {y : DataW H × List MemPlace} (h : DataW.trod enc Try.prog W base spare held n 3 ((cs.drop j).take 1) = some y) : ∃ v : Int, cs[j]? = some (.int .i64 v) := by
  obtain ⟨m, hm, _, _⟩ := DataW.trod_int Try.underlying3 h
  refine ⟨m, ?_⟩
  have h0 := congrArg (fun l : List Value => l[0]?) hm
  simpa [List.getElem?_take, List.getElem?_drop] using h0
/-- An act's cells. -/
theorem act_at {cs : List Value} {n : Nat} {y : DataW H × List MemPlace} (h : DataW.trod enc Try.prog W base spare held n 48 cs = some y) : ∃ V : Nat → Int, ∀ j, j < 4 → cs[j]? = some (.int .i64 (V j)) := by
  obtain ⟨xs, m, _, _, _, hlen, hf⟩ := DataW.trod_struct Try.underlying48 h
  have hk : ∀ j, j < 4 → ∃ v : Int, cs[j]? = some (.int .i64 v) := fun j hj => by
    have hx : ∃ y, xs[j]? = some y := ⟨_, List.getElem?_eq_getElem (by rw [hlen]; exact hj)⟩
    obtain ⟨y, hy⟩ := hx
    match j, hj with
    | 0, _ => exact int_at (j := 0) ((hf 0 _ rfl).trans hy)
    | 1, _ => exact int_at (j := 1) ((hf 1 _ rfl).trans hy)
    | 2, _ => exact int_at (j := 2) ((hf 2 _ rfl).trans hy)
    | 3, _ => exact int_at (j := 3) ((hf 3 _ rfl).trans hy)
  have hk' : ∀ j, ∃ v : Int, j < 4 → cs[j]? = some (.int .i64 v) := fun j => by
    by_cases hj : j < 4
    · obtain ⟨v, hv⟩ := hk j hj; exact ⟨v, fun _ => hv⟩
    · exact ⟨0, fun h => absurd h hj⟩
  obtain ⟨V, hV⟩ := Classical.axiomOfChoice hk'
  exact ⟨V, hV⟩
theorem acs : Try.prog.cellsOf 48 = 4 := by kernel_rfl
/-- A slice of acts that was read. -/
theorem acts_of {ad : Option Addr} {len cap n : Nat} {y : DataW H × List MemPlace} (h : DataW.trod enc Try.prog W base (fun _ => true) held n 36 [.slice ad len cap] = some y) :
    len ≤ 9223372036854775807 ∧ ∃ A, SlA W ad len A := by
  rcases open_slice Try.underlying36 h with ⟨hcs, _⟩ | ⟨a, len', cap', m, n', D, Pl, hcs, _, hl, hm, hmm, _, hi⟩
  · simp at hcs
    obtain ⟨rfl, rfl, rfl⟩ := hcs
    exact ⟨by omega, fun _ _ => 0, fun k hk => by omega⟩
  · simp at hcs
    obtain ⟨rfl, rfl, rfl⟩ := hcs
    have hm' : cap ≤ 9223372036854775807 := hm
    simp at hmm
    refine ⟨by omega, ?_⟩
    have hk : ∀ k, ∃ V : Nat → Int, k < len → ∃ b off, some a = some ⟨b, off, none⟩ ∧ Ac4 W b (off + k * 4) V := fun k => by
      by_cases hkl : k < len
      · obtain ⟨cs', hc, ht⟩ := hi k (by omega)
        rw [acs] at hc
        obtain ⟨_, hlen, hat⟩ := World.cells?_some hc
        obtain ⟨V, hV⟩ := act_at ht
        have hcell : ∀ j, j < 4 → W.cell? ((a.add (k * 4)).add j) = some (.int .i64 (V j)) := fun j hj => (hat j hj).trans (hV j hj)
        have hspot : a.spot = none := by
          obtain ⟨cs0, hc0, ht0⟩ := hi 0 (by omega)
          rw [acs] at hc0
          obtain ⟨_, _, hat0⟩ := World.cells?_some hc0
          obtain ⟨V0, hV0⟩ := act_at ht0
          have := World.cell?_spot ((hat0 0 (by omega)).trans (hV0 0 (by omega)))
          simpa [Addr.add] using this
        obtain ⟨b, off, spot⟩ := a
        obtain rfl : spot = none := hspot
        have hadd : ∀ x y, ((⟨b, off, none⟩ : Addr).add x).add y = ⟨b, off + x + y, none⟩ := fun x y => by rw [Go.WideShapes.add_plain, Go.WideShapes.add_plain]
        refine ⟨V, fun _ => ⟨b, off, rfl, ?_, ?_, ?_, ?_⟩⟩
        · have := hcell 0 (by omega); rw [hadd] at this; exact this
        · have := hcell 1 (by omega); rw [hadd] at this; exact this
        · have := hcell 2 (by omega); rw [hadd] at this; exact this
        · have := hcell 3 (by omega); rw [hadd] at this; exact this
      · exact ⟨fun _ => 0, fun h => absurd h hkl⟩
    obtain ⟨A, hA⟩ := Classical.axiomOfChoice hk
    exact ⟨A, fun k hkl => hA k hkl⟩
/-- A slice of acts among the arguments. -/
theorem open_acts {v : Value} {d : DataW H} {p : List MemPlace} {b0 : Nat} (hok : Value.okWide Try.prog W .any b0 36 v) (h : DataW.Trod enc Try.prog W 0 (fun _ => true) true 36 v d p) :
    ∃ ad len cap A, v = .slice ad len cap ∧ len ≤ 9223372036854775807 ∧ SlA W ad len A := by
  obtain ⟨a0, len, cap, rfl⟩ := okWide_slice Try.underlying36 hok
  obtain ⟨fuel, hf⟩ := h
  obtain ⟨hl, A, hA⟩ := acts_of (ad := a0) (len := len) (cap := cap) (by simpa [Value.cells] using hf)
  exact ⟨a0, len, cap, A, rfl, hl, hA⟩
end
end Go.Proofs.Ytgnkhncogfppgaa
