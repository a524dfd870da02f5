/- Plain facts: a payload's last byte and number of bits; what was put is a beginning of what is put in the end. -/
import Derived.Test.YtmojlfgfaabegaaWn
namespace Go.Proofs.Ytmojlfgfaabegaa
open bt

theorem payload_last (l : List Bool) : (payload l).getLastD 0 = byteAt (l ++ [true]) (l.length / 8) := by
  rw [List.getLastD_eq_getLast?, List.getLast?_eq_getElem?, payload_length]
  simp only [Nat.add_sub_cancel]
  have := pack_getD (l ++ [true]) (l.length / 8)
  rw [← this, List.getD_eq_getElem?_getD]
  rfl
theorem payload_last_bit (l : List Bool) (i : Nat) (hi : i ≤ 7 - l.length % 8) : ((payload l).getLastD 0).testBit i = decide (i = 7 - l.length % 8) := by
  rw [payload_last, byteAt_testBit, decide_eq_true (by omega : i < 8), Bool.true_and, List.getD_eq_getElem?_getD]
  by_cases h : i = 7 - l.length % 8
  · have e : 8 * (l.length / 8) + (7 - i) = l.length := by omega
    rw [e, decide_eq_true h]; simp
  · rw [List.getElem?_eq_none (by simp; omega), decide_eq_false h]; rfl
theorem payload_last_ne (l : List Bool) : (payload l).getLastD 0 ≠ 0 := by
  intro h
  have := payload_last_bit l (7 - l.length % 8) (Nat.le_refl _)
  rw [h] at this
  simp at this
theorem tz8_of {x t : Nat} (hx : x < 256) (ht : x.testBit t = true) (hlow : ∀ i, i < t → x.testBit i = false) : Lib.trailingZeros8 x = t := by
  have hx0 : x ≠ 0 := by rintro rfl; simp at ht
  obtain ⟨h1, h2, h3⟩ := tz8_spec ⟨x, hx⟩ hx0
  simp only at h1 h2 h3
  have hb : x.testBit (Lib.trailingZeros8 x) = true := by rw [Nat.testBit_eq_decide_div_mod_eq]; simpa using h1
  rcases Nat.lt_trichotomy (Lib.trailingZeros8 x) t with h | h | h
  · rw [hlow _ h] at hb; cases hb
  · exact h
  · have : (x % 2 ^ Lib.trailingZeros8 x).testBit t = true := by rw [Nat.testBit_mod_two_pow, decide_eq_true h, ht]; rfl
    rw [h2] at this
    simp at this
theorem nBits_payload (l : List Bool) : nBits (payload l) = l.length := by
  have h := tz8_of (t := 7 - l.length % 8) (x := (payload l).getLastD 0) (by rw [payload_last]; exact byteAt_lt _ _) (by rw [payload_last_bit l _ (Nat.le_refl _)]; simp)
    (fun i hi => by rw [payload_last_bit l i (by omega)]; simp; omega)
  unfold nBits
  rw [h, payload_length]
  omega
theorem putAll_more (l m : List (Nat × Int)) : ∃ rest, putAll (l ++ m) = putAll l ++ rest := by
  unfold putAll
  rw [List.foldl_append]
  generalize l.foldl (fun b o => putBits b (o.1 : Int) o.2) [] = b
  induction m generalizing b with
  | nil => exact ⟨[], by simp⟩
  | cons o m ih =>
    obtain ⟨rest, hr⟩ := ih (putBits b (o.1 : Int) o.2)
    rw [List.foldl_cons, hr]
    unfold putBits
    split
    · exact ⟨bitsOf (o.1 : Int).toNat o.2.toNat ++ rest, by simp⟩
    · exact ⟨rest, rfl⟩
theorem putAll_take_le (ops : List (Nat × Int)) (k : Nat) : (putAll (ops.take k)).length ≤ (putAll ops).length := by
  obtain ⟨rest, h⟩ := putAll_more (ops.take k) (ops.drop k)
  rw [List.take_append_drop] at h
  rw [h]; simp
theorem putAll_window (ops : List (Nat × Int)) (k : Nat) (v n : Nat) (hk : ops[k]? = some (v, (n : Int))) (hp : putErr (v : Int) (n : Int) = 0) :
    window (putAll ops) (putAll (ops.take k)).length n = bitsOf v n ∧ (putAll (ops.take (k + 1))).length = (putAll (ops.take k)).length + n := by
  have htk : ops.take (k + 1) = ops.take k ++ [(v, (n : Int))] := by rw [List.take_add_one, hk]; rfl
  have ha : putAll (ops.take (k + 1)) = putAll (ops.take k) ++ bitsOf v n := by rw [htk, putAll_snoc]; unfold putBits; rw [if_pos hp]; simp
  obtain ⟨rest, h⟩ := putAll_more (ops.take (k + 1)) (ops.drop (k + 1))
  rw [List.take_append_drop, ha] at h
  refine ⟨?_, by rw [ha, List.length_append, bitsOf_length]⟩
  unfold window
  rw [h, List.append_assoc, List.drop_left]
  have := List.take_left (l₁ := bitsOf v n) (l₂ := rest)
  rwa [bitsOf_length] at this
theorem putAll_skip (ops : List (Nat × Int)) (k : Nat) (v : Nat) (n : Int) (hk : ops[k]? = some (v, n)) (hp : putErr (v : Int) n ≠ 0) : putAll (ops.take (k + 1)) = putAll (ops.take k) := by
  have htk : ops.take (k + 1) = ops.take k ++ [(v, n)] := by rw [List.take_add_one, hk]; rfl
  rw [htk, putAll_snoc]; unfold putBits; rw [if_neg hp]
theorem putErr_zero {v : Nat} {n : Int} (h : putErr (v : Int) n = 0) : 0 ≤ n ∧ n ≤ 32 ∧ v < 2 ^ n.toNat := by
  unfold putErr at h
  split at h
  · cases h
  · split at h
    · rename_i h1 h2; exact ⟨by omega, by omega, by simpa using h2⟩
    · cases h
end Go.Proofs.Ytmojlfgfaabegaa
