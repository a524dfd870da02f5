/- A block's bits as a plain function; the first half of PutBlock (to the end of its loops). -/
import Derived.Test.YtmojlfgfaabegaaA5
import Derived.Test.YtmojlfgfaabegaaRegP
namespace Go.Proofs.Ytmojlfgfaabegaa
open Go.RowKit bt

/-- The mantissa of sample i. -/
def mt (l : List Int) (i : Nat) : Nat := ((l.getD i 0 / 2 ^ expo l) % 512).toNat
def chn (l : List Int) : Nat → List Bool
  | 0 => bitsOf (expo l) 4
  | i + 1 => chn l i ++ bitsOf (mt l i) 9
def chs (ls : List (List Int)) : Nat → List Bool
  | 0 => []
  | k + 1 => chs ls k ++ chn (ls.getD k []) 32
theorem chn_len (l : List Int) : ∀ i, (chn l i).length = 4 + 9 * i
  | 0 => by simp [chn, bitsOf_length]
  | i + 1 => by simp only [chn, List.length_append, chn_len l i, bitsOf_length]; omega
theorem chs_len (ls : List (List Int)) : ∀ k, (chs ls k).length = 292 * k
  | 0 => by simp [chs]
  | k + 1 => by simp only [chs, List.length_append, chs_len ls k, chn_len]; omega
theorem mt_lt (l : List Int) (i : Nat) : mt l i < 512 := by unfold mt; omega
theorem putErr_ok {v n : Nat} (hn : n ≤ 32) (hv : v < 2 ^ n) : putErr (v : Int) (n : Int) = 0 := by
  unfold putErr
  rw [if_neg (by omega), if_pos (by simpa using hv)]
theorem putBits_ok {l : List Bool} {v n : Nat} (hn : n ≤ 32) (hv : v < 2 ^ n) : putBits l (v : Int) (n : Int) = l ++ bitsOf v n := by
  unfold putBits
  rw [if_pos (putErr_ok hn hv)]
  simp
theorem mask9 (x : Int) (C : Int) : bits BinOp.and IntKind.u32 (IntKind.u32.wrap (x / C)) 511 = (x / C) % 512 := by
  rw [IntKind.wrap_u32']
  obtain ⟨N, hN⟩ := Int.eq_ofNat_of_zero_le (a := x / C % 4294967296) (by omega)
  rw [hN]
  have h1 : N < 4294967296 := by omega
  have := u32_and_nat N 511 h1 (by omega)
  rw [show N &&& 511 = N % 512 from Nat.and_two_pow_sub_one_eq_mod N 9] at this
  rw [show (511 : Int) = ((511 : Nat) : Int) from rfl, this]
  omega
theorem mask9m (y : Int) : bits BinOp.and IntKind.u32 (y % 4294967296) 511 = y % 512 := by
  have := mask9 y 1
  rw [Int.ediv_one, IntKind.wrap_u32'] at this
  exact this
end Go.Proofs.Ytmojlfgfaabegaa
