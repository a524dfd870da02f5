/- Contracts of math/bits: TrailingZeros8 (every byte), Len (numbers from 1 to 65535). -/
import Derived.Test.YtmojlfgfaabegaaProg
import Derived.Test.YtmojlfgfaabegaaBase
import Derived.Lib.BitFns
namespace Go.Proofs.Ytmojlfgfaabegaa
open Go.RowKit

theorem tz8_any (x : Int) (w : World) (h0 : 0 ≤ x) (h1 : x ≤ 255) :
    Calls Try.prog 58 #[.int .u8 x] w fun e w' => e = .returned (.int .i64 (Lib.trailingZeros8 x.toNat)) ∧ w = w' := by
  go_enter Try.func58, Try.ntmps58
  go_wp2
  go_ret
  refine ⟨congrArg Ending.returned (congrArg (Value.int IntKind.i64) ?_), rfl⟩
  unfold wrap64
  exact Lib.ntz8_int x h0 h1
theorem tz8_spec : ∀ n : Fin 256, n.val ≠ 0 → n.val / 2 ^ Lib.trailingZeros8 n.val % 2 = 1 ∧ n.val % 2 ^ Lib.trailingZeros8 n.val = 0 ∧ Lib.trailingZeros8 n.val < 8 := by decide +kernel

theorem bitLen_spec : ∀ (x : Nat), x ≠ 0 → x < 2 ^ 64 → ∃ k, Lib.bitLen x = k + 1 ∧ 2 ^ k ≤ x ∧ x < 2 ^ (k + 1) := by
  intro x
  induction x using Nat.strongRecOn with
  | _ x ih =>
    intro h0 h1
    rw [Lib.bitLen_half x h0 h1]
    by_cases h : x / 2 = 0
    · refine ⟨0, by rw [h]; rfl, by omega, by omega⟩
    · obtain ⟨k, e, h2, h3⟩ := ih (x / 2) (by omega) h (by omega)
      refine ⟨k + 1, by omega, ?_, ?_⟩
      · rw [Nat.pow_succ]; omega
      · rw [Nat.pow_succ]; omega
theorem bitLen_spec16 (x : Nat) (h0 : x ≠ 0) (h1 : x < 65536) : ∃ k, Lib.bitLen x = k + 1 ∧ 2 ^ k ≤ x ∧ x < 2 ^ (k + 1) ∧ k < 16 := by
  obtain ⟨k, e, h2, h3⟩ := bitLen_spec x h0 (by omega)
  refine ⟨k, e, h2, h3, ?_⟩
  have : (2 : Nat) ^ k < 2 ^ 16 := by omega
  exact (Nat.pow_lt_pow_iff_right (by omega)).1 this
end Go.Proofs.Ytmojlfgfaabegaa
