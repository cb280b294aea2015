import Derived.Test.YtgnkhncogfppgaaS0
import Derived.Test.YtgnkhncogfppgaaK1
namespace Go.Proofs.Ytgnkhncogfppgaa
open Go.RowKit
/-! ### a row of acts, as the law's own apply does them -/
def xOf (n : Nat) (x : Int) : Nat := (IntKind.u64.wrap x).toNat % n
def yOf (n : Nat) (y : Int) : Nat := (IntKind.u64.wrap y).toNat % (n + 1)
def whOf (a : Int) : Nat := (IntKind.u64.wrap a).toNat % 5
theorem u64_nat (x : Int) : IntKind.u64.wrap x = (((IntKind.u64.wrap x).toNat : Nat) : Int) := by
  have := wrap_u64_nonneg x; omega
theorem wrap32_bd (x : Int) : -2147483648 ≤ wrap32 x ∧ wrap32 x ≤ 2147483647 := by unfold wrap32; omega
def actZ (z : Zn) (wh i j : Nat) (d : Int) : Zn :=
  if wh = 0 then (if i + 1 = j then z else boundZ z (i : Int) ((j : Int) - 1) d)
  else if wh = 1 then (if i + 1 = j then z else boundZ z ((j : Int) - 1) (i : Int) d)
  else if wh = 2 then forgetZ z (i : Int)
  else copyZ z (i : Int) ((j : Int) - 1) d
def stepZ (z : Zn) (A : Nat → Int) : Zn := if z.n = 0 then z else actZ z (whOf (A 0)) (xOf z.n (A 1)) (yOf z.n (A 2)) (wrap32 (A 3))
def actsZ (z : Zn) (A : Nat → Nat → Int) : Nat → Zn
  | 0 => z
  | k + 1 => stepZ (actsZ z A k) (A k)
theorem actZ_n (z : Zn) (wh i j : Nat) (d : Int) : (actZ z wh i j d).n = z.n := by
  unfold actZ
  split
  · split
    · rfl
    · exact boundZ_n _ _ _ _
  · split
    · split
      · rfl
      · exact boundZ_n _ _ _ _
    · split
      · exact forgetZ_n _ _
      · exact copyZ_n _ _ _ _
theorem act_ok {z : Zn} (h : OKZ z) (wh : Nat) {i j : Nat} (hi : i < z.n) (hj : j ≤ z.n) {d : Int} (hd : -2147483648 ≤ d ∧ d ≤ 2147483647) : OKZ (actZ z wh i j d) := by
  have e : (i : Int) = ((i + 1 : Nat) : Int) - 1 := by omega
  unfold actZ
  split
  · split
    · exact h
    · rw [e]; exact bound_ok h (by omega) hj (by omega) (by omega)
  · split
    · split
      · exact h
      · rw [e]; exact bound_ok h hj (by omega) (by omega) (by omega)
    · split
      · exact forget_ok h hi
      · exact copy_ok h hi hj (by omega)
theorem stepZ_n (z : Zn) (A : Nat → Int) : (stepZ z A).n = z.n := by unfold stepZ; split; rfl; exact actZ_n _ _ _ _ _
theorem step_ok {z : Zn} (h : OKZ z) (A : Nat → Int) : OKZ (stepZ z A) := by
  unfold stepZ
  split
  · exact h
  · rename_i hn
    exact act_ok h _ (Nat.mod_lt _ (by omega)) (Nat.le_of_lt_succ (Nat.mod_lt _ (by omega))) (wrap32_bd _)
theorem actsZ_n (z : Zn) (A : Nat → Nat → Int) : ∀ k, (actsZ z A k).n = z.n
  | 0 => rfl
  | k + 1 => (stepZ_n _ _).trans (actsZ_n z A k)
theorem acts_ok {z : Zn} (h : OKZ z) (A : Nat → Nat → Int) : ∀ k, OKZ (actsZ z A k)
  | 0 => h
  | k + 1 => step_ok (acts_ok h A k) _
theorem actsZ_0 {z : Zn} (h : z.n = 0) (A : Nat → Nat → Int) : ∀ k, actsZ z A k = z
  | 0 => rfl
  | k + 1 => by
    show stepZ (actsZ z A k) (A k) = z
    rw [actsZ_0 h A k]; unfold stepZ; rw [if_pos h]
end Go.Proofs.Ytgnkhncogfppgaa
