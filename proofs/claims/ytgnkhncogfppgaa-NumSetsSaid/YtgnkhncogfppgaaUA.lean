import Derived.Test.YtgnkhncogfppgaaU8
namespace Go.Proofs.Ytgnkhncogfppgaa
open Go.RowKit
/-! Variables that hold Nums. -/
structure NumAt (W : World) (g base : Nat) (z : Zn) (sl : Value) : Prop where
  row : RowAt 57 W g (nz z sl)
  own : OwnT W base sl z.n (itvs z)
section
variable {W W' : World} {g base : Nat} {z : Zn} {sl : Value}
theorem NumAt.on (h : NumAt W g base z sl) (hb : Below W.heap.size W W') : NumAt W' g base z sl := ⟨h.row.on hb, h.own.on hb⟩
theorem NumAt.only (h : NumAt W g base z sl) {g' : Nat} {T : TypeId} {cs : Array Value} (hg : W.grownBy W' (some g')) (hr : RowAt T W g' cs) (hT : T ≠ 32) (hne : g ≠ g') : NumAt W' g base z sl := ⟨h.row.only hg hne, h.own.only hg hr hT⟩
theorem NumAt.lt (h : NumAt W g base z sl) : g < W.heap.size := h.row.lt
theorem NumAt.c0 (h : NumAt W g base z sl) : W.cell? ⟨g, 0, none⟩ = some (.bool z.none) := by have := h.row.cell 0; rw [nc_b] at this; exact this
theorem NumAt.c1 (h : NumAt W g base z sl) : W.cell? ⟨g, 1, none⟩ = some sl := by have := h.row.cell 1; rw [nc_sl] at this; exact this
end
def NewN (h : Nat) (v : Value) (W : World) : Prop := ∃ g, v = pt g ∧ h ≤ g ∧ RowAt 57 W g (nc false snil 0 false fun _ _ => 0)
theorem NewN.stab (h : Nat) : Stab (NewN h) := fun _ _ _ ⟨g, a, b, c⟩ hb => ⟨g, a, b, c.on hb⟩
theorem NewN.get {h g : Nat} {W : World} (hN : NewN h (pt g) W) : h ≤ g ∧ RowAt 57 W g (nc false snil 0 false fun _ _ => 0) := by
  obtain ⟨g', a, b, c⟩ := hN
  have := pt_inj a
  subst this
  exact ⟨b, c⟩
section
variable {ops : Array Oper} {l : List Value} {ds : List Deferred} {L : Kept} {k : Nat} {o : Oper} {ov : List (Nat × Value)}
theorem step_new_n {W : World} {h : Nat} (hst : StO l ov) (hw : Region.wanted o (yO ops l ov) = true) (ho : o.op = .alloc 57) (hh : h ≤ W.heap.size) (hk : ∀ v W', NewN h v W' → onK L k v W') :
    stepG Try.prog ops o (fr l ds ov) W (fun v W' => (∃ g, v = pt g) ∧ Below W.heap.size W W' ∧ onK L k v W') :=
  step_alloc hst hw 57 ho nzero fun _ hr hb _ => ⟨⟨_, rfl⟩, hb, hk _ _ ⟨_, rfl, hh, hr⟩⟩
end
end Go.Proofs.Ytgnkhncogfppgaa
