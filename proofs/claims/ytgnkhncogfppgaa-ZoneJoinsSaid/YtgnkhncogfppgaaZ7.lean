import Derived.Test.YtgnkhncogfppgaaZ6
namespace Go.Proofs.Ytgnkhncogfppgaa
open Go.RowKit
/-- A slice of ints holds these numbers. -/
def SlI (w : World) (ad : Option Addr) (len : Nat) (V : Nat → Int) : Prop := ∀ k, k < len → ∃ b off, ad = some ⟨b, off, none⟩ ∧ w.cell? ⟨b, off + k, none⟩ = some (.int .i64 (V k))
theorem SlI.on {w w' : World} {ad : Option Addr} {len : Nat} {V : Nat → Int} (h : SlI w ad len V) (hb : Below w.heap.size w w') : SlI w' ad len V := fun k hk => by
  obtain ⟨b, off, h1, h2⟩ := h k hk
  exact ⟨b, off, h1, (hb.cell (p := ⟨b, off + k, none⟩) (block_lt_of_cell h2)).trans h2⟩
def atV (V : Nat → Int) (i : Nat) : Int := if i = 0 then 0 else V (i - 1)
theorem at_any (ad : Option Addr) (len cap : Nat) (hlen : len ≤ 1000000) (V : Nat → Int) (i : Nat) (hi : i ≤ len) (w : World) (h : SlI w ad len V) :
    Calls Try.prog 86 #[.slice ad len cap, .int .i64 i] w fun e w' => e = .returned (.int .i64 (atV V i)) ∧ w = w' := by
  by_cases h0 : i = 0
  · subst h0
    go_enter Try.func86, Try.ntmps86
    go_wp2
    go_ret
    exact ⟨rfl, rfl⟩
  · obtain ⟨j, rfl⟩ : ∃ j, i = j + 1 := ⟨i - 1, by omega⟩
    obtain ⟨b, off, rfl, hc⟩ := h j (by omega)
    have hne : (((j + 1 : Nat) : Int) == 0) = false := by simp; omega
    rw [show ((j + 1 : Nat) : Int) = (j : Int) + 1 by omega] at *
    have hjl : (j : Int) < len := by omega
    clear h h0
    go_enter Try.func86, Try.ntmps86
    go_wp2
    go_ret
    exact ⟨by simp [atV], rfl⟩
def inr (n : Int) : Bool := decide (-2147483648 ≤ n ∧ n ≤ 2147483647)
/-- Has a zone these numbers? -/
def hasB (z : Zn) (len : Nat) (V : Nat → Int) : Bool :=
  !z.none && (len == z.n) && (List.range (z.n + 1)).all fun i => inr (atV V i) && (List.range (z.n + 1)).all fun j => inr (atV V j) && decide (atV V i - atV V j ≤ z.D i j)
theorem hasB_iff {z : Zn} {len : Nat} {V : Nat → Int} : hasB z len V = true ↔ z.none = false ∧ len = z.n ∧ ∀ i, i ≤ z.n → inr (atV V i) = true ∧ ∀ j, j ≤ z.n → inr (atV V j) = true ∧ atV V i - atV V j ≤ z.D i j := by
  simp only [hasB, Bool.and_eq_true, Bool.not_eq_true', beq_iff_eq, List.all_eq_true, List.mem_range, decide_eq_true_eq]
  constructor
  · rintro ⟨⟨h1, h2⟩, h3⟩; exact ⟨h1, h2, fun i hi => ⟨(h3 i (by omega)).1, fun j hj => (h3 i (by omega)).2 j (by omega)⟩⟩
  · rintro ⟨h1, h2, h3⟩; exact ⟨⟨h1, h2⟩, fun i hi => ⟨(h3 i (by omega)).1, fun j hj => (h3 i (by omega)).2 j (by omega)⟩⟩
theorem hasF {z : Zn} {len : Nat} {V : Nat → Int} (h : ¬ hasB z len V = true) : Ending.returned (.bool false) = .returned (.bool (hasB z len V)) := by
  rw [show hasB z len V = false by simpa using h]
theorem hasT {z : Zn} {len : Nat} {V : Nat → Int} (h : hasB z len V = true) : Ending.returned (.bool true) = .returned (.bool (hasB z len V)) := by rw [h]
set_option maxHeartbeats 1000000 in
theorem has_any (z : Zn) (hn : z.n ≤ 6) (ad : Option Addr) (len cap : Nat) (hlen : len ≤ 1000000) (V : Nat → Int) (w : World) (hV : SlI w ad len V) :
    Calls Try.prog 34 #[.agg z.c, .slice ad len cap] w (Ret w (.bool (hasB z len V))) := by
  obtain ⟨n, b, D⟩ := z
  have hn : n ≤ 6 := hn
  have HV := Lib.hid hV
  clear hV
  cases b with
  | true =>
    go_enter Try.func34, Try.ntmps34
    go_wp2_with (first
      | (refine wpList_box_zone rfl 26 _ rfl _ _ _ rfl ?_; intro W hz hb hs; have hnc := hz.n_cell; have hbc := hz.b_cell)
      | fail)
    go_ret
    exact ⟨rfl, hb⟩
  | false =>
    by_cases hln : len = n
    · have hlb : ((len : Int) != (n : Int)) = false := by simp; omega
      have hcall : ∀ (i : Nat) (W : World), i ≤ n → Below w.heap.size w W → Calls Try.prog 86 #[.slice ad len cap, .int .i64 i] W fun e w' => e = .returned (.int .i64 (atV V i)) ∧ W = w' := fun i W hi hb => at_any ad len cap hlen V i (by omega) W (HV.out.on hb)
      have HC := Lib.hid hcall
      have HL := Lib.hid hln
      clear hcall hln HV
      go_enter Try.func34, Try.ntmps34
      go_wp2_with (first
        | (refine wpList_box_zone rfl 26 _ rfl _ _ _ rfl ?_; intro W hz hb hs; have hnc := hz.n_cell; have hbc := hz.b_cell)
        | (go_at_call 85; ((with_reducible refine (count_yes n hn _).mono ?_); rintro e W2 ⟨rfl, rfl⟩))
        | fail)
      go_loop [5] (fun i_ => ∃ i : Nat, i ≤ n + 1 ∧ i_ = .int .i64 (i : Int) ∧ Hid (∀ i', i' < i → inr (atV V i') = true ∧ ∀ j, j ≤ n → inr (atV V j) = true ∧ atV V i' - atV V j ≤ D i' j)) (fun i => n + 2 - (intOf i).toNat)
      case atStart => exact ⟨0, Nat.zero_le _, rfl, fun i' hi' => absurd hi' (Nat.not_lt_zero _)⟩
      case round =>
        obtain ⟨i, hi, rfl, hall⟩ := hrel
        by_cases hli : i ≤ n
        · have hci := HC.out i W hli hb
          have HCI := Lib.hid hci
          clear hci
          by_cases hin : -2147483648 ≤ atV V i ∧ atV V i ≤ 2147483647
          · have hi1 := hin.1
            have hi2 := hin.2
            have HIN := Lib.hid hin
            clear hin
            go_wp2_with (first
              | (go_at_call 86; ((with_reducible refine (HCI.out).mono ?_); rintro e W2 ⟨rfl, rfl⟩))
              | fail)
            clear HCI
            have HINR := Lib.hid (show inr (atV V i) = true by simp [inr, HIN.out])
            go_loop [7] (fun j_ => ∃ j : Nat, j ≤ n + 1 ∧ j_ = .int .i64 (j : Int) ∧ Hid (∀ j', j' < j → inr (atV V j') = true ∧ atV V i - atV V j' ≤ D i j')) (fun j => n + 2 - (intOf j).toNat)
            case atStart => exact ⟨0, Nat.zero_le _, rfl, fun i' hi' => absurd hi' (Nat.not_lt_zero _)⟩
            case round =>
              obtain ⟨j, hj, rfl, hin2⟩ := hrel
              by_cases hlj : j ≤ n
              · have hcj := HC.out j W hlj hb
                have HCJ := Lib.hid hcj
                clear hcj
                have c1 := hz.cell i j (by omega) (by omega)
                by_cases hjn : -2147483648 ≤ atV V j ∧ atV V j ≤ 2147483647
                · have hj1 := hjn.1
                  have hj2 := hjn.2
                  have HJN := Lib.hid hjn
                  clear hjn
                  by_cases hle : atV V i - atV V j ≤ D i j
                  · go_wp2_with (first
                      | (go_at_call 86; ((with_reducible refine (HCJ.out).mono ?_); rintro e W2 ⟨rfl, rfl⟩))
                      | fail)
                    exact ⟨⟨j + 1, by omega, by go_num, fun j' hj' => by
                      by_cases hjj : j' = j
                      · subst hjj; exact ⟨by simp [inr, HJN.out], hle⟩
                      · exact hin2.out j' (by omega)⟩, by simp [intOf]; omega⟩
                  · go_wp2_with (first
                      | (go_at_call 86; ((with_reducible refine (HCJ.out).mono ?_); rintro e W2 ⟨rfl, rfl⟩))
                      | fail)
                    go_ret
                    refine ⟨hasF fun h => ?_, hb⟩
                    have := ((hasB_iff.1 h).2.2 i hli).2 j hlj
                    have h3 := this.2
                    simp only at h3
                    omega
                · have hout : atV V j < -2147483648 ∨ 2147483647 < atV V j := by omega
                  have HJN := Lib.hid hjn
                  clear hjn
                  rcases hout with hout | hout
                  all_goals
                    go_wp2_with (first
                      | (go_at_call 86; ((with_reducible refine (HCJ.out).mono ?_); rintro e W2 ⟨rfl, rfl⟩))
                      | fail)
                    go_ret
                    refine ⟨hasF fun h => ?_, hb⟩
                    have := (((hasB_iff.1 h).2.2 i hli).2 j hlj).1
                    simp [inr] at this
                    exact HJN.out this
              · obtain rfl : j = n + 1 := by omega
                go_wp2
                exact ⟨⟨i + 1, by omega, by go_num, fun i' hi' => by
                  by_cases hii : i' = i
                  · subst hii; exact ⟨HINR.out, fun j hj => hin2.out j (by omega)⟩
                  · exact hall.out i' (by omega)⟩, by simp [intOf]; omega⟩
          · have hout : atV V i < -2147483648 ∨ 2147483647 < atV V i := by omega
            have HIN := Lib.hid hin
            clear hin
            rcases hout with hout | hout
            all_goals
              go_wp2_with (first
                | (go_at_call 86; ((with_reducible refine (HCI.out).mono ?_); rintro e W2 ⟨rfl, rfl⟩))
                | fail)
              go_ret
              refine ⟨hasF fun h => ?_, hb⟩
              have := ((hasB_iff.1 h).2.2 i hli).1
              simp [inr] at this
              exact HIN.out this
        · obtain rfl : i = n + 1 := by omega
          go_wp2
          go_ret
          exact ⟨hasT (hasB_iff.2 ⟨rfl, HL.out, fun i (hi : i ≤ n) => hall.out i (by omega)⟩), hb⟩
    · have hlb : ((len : Int) != (n : Int)) = true := by simp; omega
      go_enter Try.func34, Try.ntmps34
      go_wp2_with (first
        | (refine wpList_box_zone rfl 26 _ rfl _ _ _ rfl ?_; intro W hz hb hs; have hnc := hz.n_cell; have hbc := hz.b_cell)
        | (go_at_call 85; ((with_reducible refine (count_yes n hn _).mono ?_); rintro e W2 ⟨rfl, rfl⟩))
        | fail)
      go_ret
      exact ⟨by simp [hasB, hln], hb⟩
end Go.Proofs.Ytgnkhncogfppgaa
