/- More plain facts on bits: the bits of some bytes, payloads. No program in sight, no condition. -/
import Derived.Test.YtmojlfgfaabegaaBits
namespace Go.Proofs.Ytmojlfgfaabegaa.bt
/-- Bit i of some bytes, the most significant bit of each byte first. -/
def bitAt (p : List Nat) (i : Nat) : Bool := (p.getD (i / 8) 0).testBit (7 - i % 8)
/-- The first n bits of some bytes. -/
def bitsIn (p : List Nat) (n : Nat) : List Bool := (List.range n).map (bitAt p)
theorem bitsIn_length (p : List Nat) (n : Nat) : (bitsIn p n).length = n := by simp [bitsIn]
theorem bitsIn_get (p : List Nat) (n i : Nat) (h : i < n) : (bitsIn p n)[i]? = some (bitAt p i) := by simp [bitsIn, h]
/-- The bits from place 'at' on, k of them. -/
def window (l : List Bool) (at_ k : Nat) : List Bool := (l.drop at_).take k
theorem window_snoc (l : List Bool) (at_ k : Nat) (b : Bool) (h : l[at_ + k]? = some b) : window l at_ (k + 1) = window l at_ k ++ [b] := by
  unfold window
  rw [List.take_add_one, List.getElem?_drop, h]
  rfl
theorem window_length (l : List Bool) (at_ k : Nat) (h : at_ + k ≤ l.length) : (window l at_ k).length = k := by
  simp [window]; omega
theorem pack_getD (l : List Bool) (j : Nat) : (pack l).getD j 0 = byteAt l j := by
  unfold pack
  rw [List.getD_eq_getElem?_getD, List.getElem?_map]
  by_cases h : j < (l.length + 7) / 8
  · rw [List.getElem?_range h]; rfl
  · rw [List.getElem?_eq_none (by simp; omega)]
    rw [byteAt_past (by omega)]; rfl
theorem bitAt_pack (l : List Bool) (i : Nat) : bitAt (pack l) i = l.getD i false := by
  unfold bitAt
  rw [pack_getD, byteAt_testBit]
  have e : 8 * (i / 8) + (7 - (7 - i % 8)) = i := by omega
  rw [decide_eq_true (by omega), e]; rfl
theorem bitsIn_pack (l : List Bool) (n : Nat) (h : n ≤ l.length) : bitsIn (pack l) n = l.take n := by
  apply List.ext_getElem?
  intro i
  by_cases hi : i < n
  · rw [bitsIn_get _ _ _ hi, bitAt_pack, List.getElem?_take_of_lt hi, List.getD_eq_getElem?_getD, List.getElem?_eq_getElem (by omega)]; rfl
  · rw [List.getElem?_eq_none (by rw [bitsIn_length]; omega), List.getElem?_eq_none (by simp; omega)]
theorem bitsIn_payload (l : List Bool) : bitsIn (payload l) l.length = l := by
  unfold payload
  rw [bitsIn_pack _ _ (by simp)]
  simp
theorem payload_lt (l : List Bool) : ∀ x ∈ payload l, x < 256 := by
  intro x hx
  simp only [payload, pack, List.mem_map] at hx
  obtain ⟨j, _, rfl⟩ := hx
  exact byteAt_lt _ _
theorem pack_bitsIn (p : List Nat) (hp : ∀ x ∈ p, x < 256) : pack (bitsIn p (8 * p.length)) = p := by
  apply List.ext_getElem
  · simp [pack, bitsIn]; omega
  · intro i h1 h2
    simp only [pack, List.getElem_map, List.getElem_range]
    apply Nat.eq_of_testBit_eq
    intro j
    rw [byteAt_testBit]
    by_cases hj : j < 8
    · rw [decide_eq_true hj, List.getD_eq_getElem?_getD, bitsIn_get _ _ _ (by omega)]
      simp only [bitAt, Option.getD_some, Bool.true_and]
      have e1 : (8 * i + (7 - j)) / 8 = i := by omega
      have e2 : 7 - (8 * i + (7 - j)) % 8 = j := by omega
      rw [e1, e2]; simp [h2]
    · rw [decide_eq_false hj]
      have hlt := hp p[i] (List.getElem_mem h2)
      have : p[i] < 2 ^ j := Nat.lt_of_lt_of_le hlt (by have : 2 ^ 8 ≤ 2 ^ j := Nat.pow_le_pow_right (by omega) (by omega); omega)
      rw [Nat.testBit_lt_two_pow this]; rfl
end Go.Proofs.Ytmojlfgfaabegaa.bt
