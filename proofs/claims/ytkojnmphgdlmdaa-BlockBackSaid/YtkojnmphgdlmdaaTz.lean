/- Contracts of math/bits: TrailingZeros8 (every byte), Len (numbers from 1 to 65535). -/
import Derived.Test.YtkojnmphgdlmdaaProg
import Derived.Test.YtkojnmphgdlmdaaBase
import Derived.Lib.BitFns
namespace Go.Proofs.Ytkojnmphgdlmdaa
open Go.RowKit

theorem tz8_any (x : Int) (w : World) (h0 : 0 ≤ x) (h1 : x ≤ 255) :
    Calls Try.prog 33 #[.int .u8 x] w fun e w' => e = .returned (.int .i64 (Lib.trailingZeros8 x.toNat)) ∧ w = w' := by
  go_enter Try.func33, Try.ntmps33
  go_wp2
  go_ret
  refine ⟨congrArg Ending.returned (congrArg (Value.int IntKind.i64) ?_), rfl⟩
  unfold wrap64
  exact Lib.ntz8_int x h0 h1
theorem tz8_spec : ∀ n : Fin 256, n.val ≠ 0 → n.val / 2 ^ Lib.trailingZeros8 n.val % 2 = 1 ∧ n.val % 2 ^ Lib.trailingZeros8 n.val = 0 ∧ Lib.trailingZeros8 n.val < 8 := by decide +kernel

set_option maxRecDepth 100000 in
theorem len64_any (x : Int) (w : World) (h0 : 0 ≤ x) (h1 : x ≤ 65535) :
    Calls Try.prog 51 #[.int .u64 x] w fun e w' => e = .returned (.int .i64 (Lib.bitLen x.toNat)) ∧ w = w' := by
  by_cases h8 : 256 ≤ x
  · have g1 : x / 256 ≤ 255 := by omega
    have g0 : 0 ≤ x / 256 := by omega
    go_enter Try.func51, Try.ntmps51
    go_wp2
    go_ret
    refine ⟨congrArg Ending.returned (congrArg (Value.int IntKind.i64) ?_), rfl⟩
    rw [Lib.len8_of (x / 256) g0 g1]
    have e : (x / 256).toNat = x.toNat / 256 := by omega
    have l := Lib.bitLen_le8' (x / 256) g0 g1
    have s := Lib.bitLen_shift8 x.toNat (by omega) (by omega)
    rw [e] at l ⊢
    unfold wrap64
    omega
  · have g1 : x ≤ 255 := by omega
    go_enter Try.func51, Try.ntmps51
    go_wp2
    go_ret
    refine ⟨congrArg Ending.returned (congrArg (Value.int IntKind.i64) ?_), rfl⟩
    rw [Lib.len8_of x h0 g1]
    have l := Lib.bitLen_le8' x h0 g1
    unfold wrap64
    omega
theorem len_bits_any (x : Int) (w : World) (h0 : 0 ≤ x) (h1 : x ≤ 65535) :
    Calls Try.prog 41 #[.int .u64 x] w fun e w' => e = .returned (.int .i64 (Lib.bitLen x.toNat)) ∧ w = w' := by
  go_enter Try.func41, Try.ntmps41
  go_wp2_with (go_at_call 51; refine (len64_any _ _ h0 h1).mono ?_; rintro e w' ⟨rfl, rfl⟩)
  go_ret
  exact ⟨rfl, rfl⟩
theorem bitLen_spec : ∀ (x : Nat), x ≠ 0 → x < 2 ^ 64 → ∃ k, Lib.bitLen x = k + 1 ∧ 2 ^ k ≤ x ∧ x < 2 ^ (k + 1) := by
  intro x
  induction x using Nat.strongRecOn with
  | _ x ih =>
    intro h0 h1
    rw [Lib.bitLen_half x h0 h1]
    by_cases h : x / 2 = 0
    · refine ⟨0, by rw [h]; rfl, by omega, by omega⟩
    · obtain ⟨k, e, h2, h3⟩ := ih (x / 2) (by omega) h (by omega)
      refine ⟨k + 1, by omega, ?_, ?_⟩
      · rw [Nat.pow_succ]; omega
      · rw [Nat.pow_succ]; omega
theorem bitLen_spec16 (x : Nat) (h0 : x ≠ 0) (h1 : x < 65536) : ∃ k, Lib.bitLen x = k + 1 ∧ 2 ^ k ≤ x ∧ x < 2 ^ (k + 1) ∧ k < 16 := by
  obtain ⟨k, e, h2, h3⟩ := bitLen_spec x h0 (by omega)
  refine ⟨k, e, h2, h3, ?_⟩
  have : (2 : Nat) ^ k < 2 ^ 16 := by omega
  exact (Nat.pow_lt_pow_iff_right (by omega)).1 this
end Go.Proofs.Ytkojnmphgdlmdaa
