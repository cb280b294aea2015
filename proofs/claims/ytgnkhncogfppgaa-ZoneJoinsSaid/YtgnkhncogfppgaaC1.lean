import Derived.Test.YtgnkhncogfppgaaProg
import Derived.Test.YtgnkhncogfppgaaW1
namespace Go.Proofs.Ytgnkhncogfppgaa
open Go.RowKit
set_option maxHeartbeats 400000 in
theorem own_any (g n : Nat) (hn : n ≤ 6) (b : Bool) (D : Mat) (w : World) (hz : ZAt 26 w g n b D) :
    Calls Try.prog 106 #[.pointer (some ⟨g, 0, none⟩)] w fun e w' => e = .returned (.tuple #[]) ∧ w.grownBy w' (some g) ∧ ZAt 26 w' g n b (ownF n D) := by
  have hZ := Lib.hid hz
  clear hz
  go_enter Try.func106, Try.ntmps106
  go_wp2
  go_loopw [2] (fun i wr => ∃ k : Nat, k ≤ n ∧ i = .int .i64 ((k : Int) + 1) ∧ w.grownBy wr (some g) ∧ Hid (ZAt 26 wr g n b (ownF k D))) (fun i _ => n + 1 - (intOf i).toNat)
  case atStart => exact ⟨0, Nat.zero_le _, rfl, .refl _ _, hZ⟩
  case round =>
    obtain ⟨k, hk, rfl, hgr, hZr⟩ := hrel
    have hc := hZr.out.n_cell
    by_cases hlt : k < n
    · have c1 := hZr.out.cell (k + 1) 0 (by omega) (by omega)
      have f1 := hZr.out.frozen (2 + (k + 1) * 7)
      have s1 := Lib.hid (hZr.out.set (k + 1) 0 (mn (ownF k D (k + 1) 0) 2147483647) (by omega) (by omega)).drew
      have g1 := Lib.hid (only_drew (only_setCell (p := ⟨g, 2 + (k + 1) * 7, none⟩) hgr (.inl rfl) (.int .i64 (mn (ownF k D (k + 1) 0) 2147483647))))
      clear hgr
      simp only [Nat.add_zero] at c1 s1
      go_wp2
      go_region
      generalize (wr.setCell { block := g, off := 2 + (k + 1) * 7 } (Value.int IntKind.i64 (mn (ownF k D (k + 1) 0) 2147483647))).drew = w2 at *
      have c2 := s1.out.cell 0 (k + 1) (by omega) (by omega)
      have f2 := s1.out.frozen (2 + (k + 1))
      simp only [Nat.zero_mul, Nat.add_zero] at c2
      obtain ⟨v, hv⟩ : ∃ v, v = upd (ownF k D) (k + 1) 0 (mn (ownF k D (k + 1) 0) 2147483647) 0 (k + 1) := ⟨_, rfl⟩
      have s2 := Lib.hid (s1.out.set 0 (k + 1) (mn v 2147483648) (by omega) (by omega)).drew
      have g2 := Lib.hid (only_drew (only_setCell (p := ⟨g, 2 + (k + 1), none⟩) g1.out (.inl rfl) (.int .i64 (mn v 2147483648))))
      rw [← hv] at c2
      have hV := Lib.hid hv
      clear hv
      simp only [Nat.zero_mul, Nat.add_zero] at s2
      go_wp2
      go_region
      generalize (w2.setCell { block := g, off := 2 + (k + 1) } (Value.int IntKind.i64 (mn v 2147483648))).drew = w3 at *
      go_wp2
      go_roundw
      case rel => exact ⟨k + 1, by omega, by go_num, g2.out, by rw [hV.out] at s2; exact s2⟩
      case measure => simp [intOf]; omega
    · go_wp2
      go_end0
      obtain rfl : k = n := by omega
      exact ⟨rfl, hgr, hZr.out⟩
end Go.Proofs.Ytgnkhncogfppgaa
