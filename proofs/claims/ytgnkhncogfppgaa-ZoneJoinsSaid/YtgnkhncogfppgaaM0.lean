import Derived.Test.YtgnkhncogfppgaaM2
namespace Go.Proofs.Ytgnkhncogfppgaa
def zeroM : Mat := fun _ _ => 0
/-- The numbers' own bounds, put in one by one. -/
def ownS (i : Nat) (S : Mat) : Mat :=
  let S1 := upd S (i + 1) 0 (mn (S (i + 1) 0) 2147483647)
  upd S1 0 (i + 1) (mn (S1 0 (i + 1)) 2147483648)
def ownF (m : Nat) (D : Mat) : Mat := iter ownS m D
def negB (n : Nat) (F : Mat) : Bool := (List.range (n + 1)).any fun i => decide (F i i < 0)
/-- A zone. -/
structure Zn where
  n : Nat
  none : Bool
  D : Mat
abbrev far : Int := 1099511627776
def closeZ (z : Zn) : Zn :=
  if z.none then z
  else if negB z.n (fwK z.n (z.n + 1) (ownF z.n z.D)) then ⟨z.n, true, zeroM⟩ else ⟨z.n, false, fwK z.n (z.n + 1) (ownF z.n z.D)⟩
def topM (n : Nat) : Mat := fun a b => if a ≤ n ∧ b ≤ n ∧ a ≠ b then far else 0
def topZ (n : Nat) : Zn := closeZ ⟨n, false, topM n⟩
def zerosZ (n : Nat) : Zn := ⟨n, false, zeroM⟩
def noneZ (n : Nat) : Zn := ⟨n, true, zeroM⟩
def varB (z : Zn) (x : Int) : Bool := !z.none && decide (0 ≤ x ∧ x < z.n)
def orB (z : Zn) (x : Int) : Bool := !z.none && decide (-1 ≤ x ∧ x < z.n)
def boundZ (z : Zn) (x y d : Int) : Zn :=
  if orB z x && orB z y then closeZ { z with D := upd z.D (x + 1).toNat (y + 1).toNat (mn (z.D (x + 1).toNat (y + 1).toNat) (mx d (-far))) } else z
def forgetS (row i : Nat) (S : Mat) : Mat := if i ≠ row then upd (upd S i row far) row i far else S
def forgetM (row m : Nat) (D : Mat) : Mat := iter (forgetS row) m D
def forgetZ (z : Zn) (x : Int) : Zn := if varB z x then closeZ { z with D := forgetM (x + 1).toNat (z.n + 1) z.D } else z
def movedS (row : Nat) (d : Int) (i : Nat) (S : Mat) : Mat :=
  if i ≠ row then upd (upd S row i (w64 (S row i + d))) i row (w64 (upd S row i (w64 (S row i + d)) i row - d)) else S
def movedM (row : Nat) (d : Int) (m : Nat) (D : Mat) : Mat := iter (movedS row d) m D
def movedZ (z : Zn) (row : Nat) (d : Int) : Zn := closeZ { z with D := movedM row d (z.n + 1) z.D }
def linkZ (z : Zn) (x y d : Int) : Zn := closeZ { z with D := upd (upd z.D (x + 1).toNat (y + 1).toNat d) (y + 1).toNat (x + 1).toNat (w64 (-d)) }
def copyZ (z : Zn) (x y d : Int) : Zn :=
  if varB z x && orB z y then
    if x = y then movedZ z (x + 1).toNat (mn (mx d (-far)) far)
    else linkZ (closeZ { z with D := forgetM (x + 1).toNat (z.n + 1) z.D }) x y (mn (mx d (-far)) far)
  else z
theorem closeZ_n (z : Zn) : (closeZ z).n = z.n := by unfold closeZ; split; rfl; split <;> rfl
theorem boundZ_n (z : Zn) (x y d : Int) : (boundZ z x y d).n = z.n := by unfold boundZ; split; rw [closeZ_n]; rfl
theorem forgetZ_n (z : Zn) (x : Int) : (forgetZ z x).n = z.n := by unfold forgetZ; split; rw [closeZ_n]; rfl
theorem copyZ_n (z : Zn) (x y d : Int) : (copyZ z x y d).n = z.n := by
  unfold copyZ; split
  · split
    · unfold movedZ; rw [closeZ_n]
    · unfold linkZ; rw [closeZ_n, closeZ_n]
  · rfl
end Go.Proofs.Ytgnkhncogfppgaa
