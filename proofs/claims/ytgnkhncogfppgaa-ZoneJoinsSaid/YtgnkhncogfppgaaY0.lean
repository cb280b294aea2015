import Derived.Test.YtgnkhncogfppgaaM4
namespace Go.Proofs.Ytgnkhncogfppgaa
/-! The document's close, as the program's. -/
def rcloseZ (z : Zn) : Zn := if negB z.n (rR z.n (z.n + 2) (ownF z.n z.D)) then ⟨z.n, true, zeroM⟩ else ⟨z.n, false, rR z.n (z.n + 2) (ownF z.n z.D)⟩
theorem rclose_eq {z : Zn} (h : Pre z) : rcloseZ z = closeZ z := by
  have hs := ref_spec (n := z.n) (L := 274877906944) (U := 1000000000000000) h.n (by omega) (by omega) (by omega) h.good
  unfold rcloseZ
  rw [ownF_eq]
  rcases hs with hs | ⟨hinf, i, hi, hneg⟩
  · have hn : ¬ negB z.n (rR z.n (z.n + 2) (ownA z.n z.D)) = true := fun hb => by
      obtain ⟨i, hi, hlt⟩ := negB_iff.1 hb
      rw [hs.sub.diag i hi] at hlt; omega
    rw [if_neg hn]
    exact (close_eq h hs fun i j ho => by rw [rR_out ho, ownA_out _ ho]; exact h.out i j ho).symm
  · rw [if_pos (negB_iff.2 ⟨i, hi, hneg⟩)]
    rcases close_spec h with ⟨_, h2, _⟩ | ⟨h1, _⟩
    · exact absurd hinf h2.feas
    · exact h1.symm
end Go.Proofs.Ytgnkhncogfppgaa
