/- Contracts of chapter 6's Valid. -/
import Derived.Test.YtmghfhjiodeaeaaH8
namespace Go.Proofs.Ytmghfhjiodeaeaa
open Go.RowKit

/-- The first n entries are at least 8. -/
def vld (m : Nat → Int) (n : Nat) : Bool := (List.range n).all fun j => decide (8 ≤ m j)
theorem vld_true {m : Nat → Int} {n : Nat} : vld m n = true ↔ ∀ j, j < n → 8 ≤ m j := by simp [vld]
theorem vld_succ {m : Nat → Int} {n : Nat} (h : vld m n = true) (h' : 8 ≤ m n) : vld m (n + 1) = true := by
  rw [vld_true] at h ⊢
  intro j hj
  rcases Nat.lt_or_ge j n with h1 | h1
  · exact h j h1
  · obtain rfl : j = n := by omega
    exact h'
theorem vld_false {m : Nat → Int} {n j : Nat} (h : j < n) (h' : m j < 8) : vld m n = false := by
  rw [Bool.eq_false_iff]
  intro ht
  have := vld_true.1 ht j h
  omega
theorem refValid_any (w : World) (m : Nat → Int) : Calls Try.prog 40 #[.agg (arr .u8 64 m)] w fun e w' => e = .returned (.bool (vld m 64)) ∧ Only [] w w' := by
  go_enter Try.func40, Try.ntmps40
  go_wp2_with (refine bx8 (x := m) rfl rfl rfl ?_; rintro g1 w1 b1 o1 l1)
  go_loop [3] (fun i => ∃ k : Nat, k ≤ 64 ∧ vld m k = true ∧ i = .int .i64 k) (fun i => 64 - (intOf i).toNat)
  case atStart => exact ⟨0, by omega, rfl, rfl⟩
  case round =>
    obtain ⟨k, hk, hin, rfl⟩ := hrel
    have Hin := Lib.hid hin
    clear hin
    by_cases hlt : k < 64
    · have hd : decide ((k : Int) < 64) = true := by simp; omega
      have hc := b1.cell k
      rw [arr_get hlt] at hc
      by_cases h1 : m k < 8
      · go_wp2
        go_ret
        exact ⟨congrArg Ending.returned (congrArg Value.bool (vld_false hlt h1).symm), o1⟩
      · go_wp2
        exact ⟨⟨k + 1, by omega, vld_succ Hin.out (by omega), by go_num⟩, by simp [intOf]; omega⟩
    · obtain rfl : k = 64 := by omega
      go_wp2
      go_ret
      exact ⟨congrArg Ending.returned (congrArg Value.bool Hin.out.symm), o1⟩
theorem valid_any (w : World) (m : Nat → Int) : Calls Try.prog 43 #[.agg (arr .u8 64 m)] w fun e w' => e = .returned (.bool (vld m 64)) ∧ Only [] w w' := by
  go_enter Try.func43, Try.ntmps43
  go_wp2_with (first | (refine bx8 (x := m) rfl rfl rfl ?_; rintro g1 w1 b1 o1 l1) | refine ld8 b1 rfl rfl rfl ?_)
  go_loop [6] (fun i => ∃ k : Nat, k ≤ 64 ∧ vld m k = true ∧ i = .int .i64 k) (fun i => 64 - (intOf i).toNat)
  case atStart => exact ⟨0, by omega, rfl, rfl⟩
  case round =>
    obtain ⟨k, hk, hin, rfl⟩ := hrel
    have Hin := Lib.hid hin
    clear hin
    by_cases hlt : k < 64
    · have hd : decide ((k : Int) < 64) = true := by simp; omega
      have hat := idxB m k hlt
      by_cases h1 : m k < 8
      · go_wp2
        go_ret
        exact ⟨congrArg Ending.returned (congrArg Value.bool (vld_false hlt h1).symm), o1⟩
      · go_wp2
        exact ⟨⟨k + 1, by omega, vld_succ Hin.out (by omega), by go_num⟩, by simp [intOf]; omega⟩
    · obtain rfl : k = 64 := by omega
      go_wp2
      go_ret
      exact ⟨congrArg Ending.returned (congrArg Value.bool Hin.out.symm), o1⟩

end Go.Proofs.Ytmghfhjiodeaeaa
