/- Plain facts on bits: a number's bits, the bytes that a list of bits is packed into. No program in sight, no condition. -/
namespace Go.Proofs.Ytmojlfgfaabegaa.bt

/-- The n least significant bits of v, the most significant first. -/
def bitsOf (v n : Nat) : List Bool := (List.range n).map fun i => v.testBit (n - 1 - i)
/-- A list of bits as a number, the first bit the most significant one. -/
def num (l : List Bool) : Nat := l.foldl (fun a b => 2 * a + b.toNat) 0
/-- Byte j of the bits l, the most significant bit first, bits that lack as 0. -/
def byteAt (l : List Bool) (j : Nat) : Nat := num ((List.range 8).map fun i => l.getD (8 * j + i) false)
/-- The bits l as bytes. -/
def pack (l : List Bool) : List Nat := (List.range ((l.length + 7) / 8)).map (byteAt l)
/-- The payload of the bits l. -/
def payload (l : List Bool) : List Nat := pack (l ++ [true])

theorem bitsOf_length (v n : Nat) : (bitsOf v n).length = n := by simp [bitsOf]
theorem pack_length (l : List Bool) : (pack l).length = (l.length + 7) / 8 := by simp [pack]
theorem payload_length (l : List Bool) : (payload l).length = l.length / 8 + 1 := by simp [payload, pack]; omega

theorem foldl_num (l : List Bool) (a : Nat) : l.foldl (fun a b => 2 * a + b.toNat) a = a * 2 ^ l.length + num l := by
  induction l generalizing a with
  | nil => simp [num]
  | cons b l ih =>
    simp only [List.foldl_cons, List.length_cons, num]
    rw [ih, ih (2 * 0 + b.toNat), Nat.pow_succ]
    generalize 2 ^ l.length = p
    rw [Nat.add_mul, Nat.mul_comm p 2, ← Nat.mul_assoc a 2 p, Nat.mul_comm a 2, Nat.mul_zero, Nat.zero_add]
    omega
theorem num_nil : num [] = 0 := rfl
theorem num_snoc (l : List Bool) (b : Bool) : num (l ++ [b]) = 2 * num l + b.toNat := by simp [num, List.foldl_append]
theorem num_append (l m : List Bool) : num (l ++ m) = num l * 2 ^ m.length + num m := by
  unfold num; rw [List.foldl_append, foldl_num]; rfl
theorem num_cons (b : Bool) (m : List Bool) : num (b :: m) = b.toNat * 2 ^ m.length + num m := by
  have := num_append [b] m; simpa [num] using this
theorem num_lt (l : List Bool) : num l < 2 ^ l.length := by
  induction l with
  | nil => simp [num]
  | cons b l ih => rw [num_cons, List.length_cons, Nat.pow_succ]; cases b <;> simp <;> omega
theorem num_testBit (l : List Bool) (i : Nat) : (num l).testBit i = (decide (i < l.length) && l.getD (l.length - 1 - i) false) := by
  induction l generalizing i with
  | nil => simp [num]
  | cons b l ih =>
    rw [num_cons, Nat.mul_comm, Nat.testBit_two_pow_mul_add _ (num_lt l)]
    by_cases h : i < l.length
    · rw [if_pos h, ih, decide_eq_true h, List.length_cons, decide_eq_true (by omega : i < l.length + 1)]
      have e : l.length + 1 - 1 - i = (l.length - 1 - i) + 1 := by omega
      rw [e]; simp
    · rw [if_neg h]
      by_cases h2 : i = l.length
      · subst h2; cases b <;> simp
      · have e : i - l.length = (i - l.length - 1) + 1 := by omega
        rw [decide_eq_false (by simp; omega), e]
        cases b <;> simp [Nat.testBit_succ]
theorem bitsOf_snoc (v n k : Nat) (h : k < n) : (bitsOf v n).take (k + 1) = (bitsOf v n).take k ++ [v.testBit (n - 1 - k)] := by
  rw [List.take_succ_eq_append_getElem (by simp [bitsOf]; exact h)]
  simp [bitsOf]
theorem num_bitsOf_take (v n k : Nat) (h : k ≤ n) : num ((bitsOf v n).take k) = v % 2 ^ n / 2 ^ (n - k) := by
  apply Nat.eq_of_testBit_eq
  intro i
  rw [num_testBit, Nat.testBit_div_two_pow, Nat.testBit_mod_two_pow]
  have hl : ((bitsOf v n).take k).length = k := by simp [bitsOf]; omega
  rw [hl]
  by_cases hi : i < k
  · rw [decide_eq_true hi, decide_eq_true (by omega : i + (n - k) < n)]
    simp only [bitsOf, Bool.true_and, List.getD_eq_getElem?_getD]
    rw [List.getElem?_take_of_lt (by omega), List.getElem?_map, List.getElem?_range (by omega)]
    simp only [Option.map_some, Option.getD_some]
    congr 1; omega
  · rw [decide_eq_false hi, decide_eq_false (by omega : ¬ i + (n - k) < n)]; simp
theorem num_bitsOf (v n : Nat) : num (bitsOf v n) = v % 2 ^ n := by
  have := num_bitsOf_take v n n (Nat.le_refl _)
  rw [List.take_of_length_le (by simp [bitsOf])] at this
  simpa using this
theorem num_bitsOf_lt (v n : Nat) (h : v < 2 ^ n) : num (bitsOf v n) = v := by rw [num_bitsOf, Nat.mod_eq_of_lt h]
theorem bitsOf_num (l : List Bool) : bitsOf (num l) l.length = l := by
  apply List.ext_getElem
  · simp [bitsOf]
  · intro i h1 h2
    simp only [bitsOf, List.getElem_map, List.getElem_range, num_testBit]
    rw [decide_eq_true (by omega)]
    have e : l.length - 1 - (l.length - 1 - i) = i := by omega
    rw [e]; simp [h2]

theorem byteAt_lt (l : List Bool) (j : Nat) : byteAt l j < 256 := by
  have := num_lt ((List.range 8).map fun i => l.getD (8 * j + i) false)
  simpa [byteAt] using this
theorem byteAt_testBit (l : List Bool) (j i : Nat) : (byteAt l j).testBit i = (decide (i < 8) && l.getD (8 * j + (7 - i)) false) := by
  unfold byteAt
  rw [num_testBit]
  simp only [List.length_map, List.length_range]
  by_cases h : i < 8
  · rw [decide_eq_true h, List.getD_eq_getElem?_getD, List.getElem?_map, List.getElem?_range (by omega)]
    simp
  · rw [decide_eq_false h]; simp
theorem byteAt_congr {l m : List Bool} {j : Nat} (h : ∀ i, i < 8 → l.getD (8 * j + i) false = m.getD (8 * j + i) false) : byteAt l j = byteAt m j := by
  unfold byteAt
  congr 1
  apply List.map_congr_left
  intro i hi
  exact h i (List.mem_range.1 hi)
theorem byteAt_append {l m : List Bool} {j : Nat} (h : 8 * j + 8 ≤ l.length) : byteAt (l ++ m) j = byteAt l j :=
  byteAt_congr fun i hi => by simp only [List.getD_eq_getElem?_getD]; rw [List.getElem?_append_left (by omega)]
theorem byteAt_past {l : List Bool} {j : Nat} (h : l.length ≤ 8 * j) : byteAt l j = 0 := by
  apply Nat.eq_of_testBit_eq
  intro i
  rw [byteAt_testBit]
  simp only [Nat.zero_testBit, Bool.and_eq_false_imp, List.getD_eq_getElem?_getD]
  intro _
  rw [List.getElem?_eq_none (by omega)]; rfl
/-- One bit more. -/
theorem byteAt_snoc (l : List Bool) (b : Bool) : byteAt (l ++ [b]) (l.length / 8) = byteAt l (l.length / 8) ||| (b.toNat <<< (7 - l.length % 8)) := by
  apply Nat.eq_of_testBit_eq
  intro i
  rw [Nat.testBit_or, byteAt_testBit, byteAt_testBit, Nat.testBit_shiftLeft]
  simp only [List.getD_eq_getElem?_getD]
  by_cases h : i < 8
  · rw [decide_eq_true h]
    by_cases h2 : 8 * (l.length / 8) + (7 - i) < l.length
    · rw [List.getElem?_append_left h2]
      have e : i - (7 - l.length % 8) = (i - (7 - l.length % 8) - 1) + 1 := by omega
      rw [e]; cases b <;> simp [Nat.testBit_succ]
    · rw [List.getElem?_append_right (by omega), List.getElem?_eq_none (by omega : l.length ≤ 8 * (l.length / 8) + (7 - i))]
      by_cases h3 : 8 * (l.length / 8) + (7 - i) = l.length
      · rw [h3, Nat.sub_self, decide_eq_true (by omega : i ≥ 7 - l.length % 8)]
        have e : i - (7 - l.length % 8) = 0 := by omega
        rw [e]; cases b <;> simp
      · rw [List.getElem?_eq_none (by simp; omega), decide_eq_false (by omega : ¬ i ≥ 7 - l.length % 8)]; simp
  · rw [decide_eq_false h]
    simp only [Bool.false_and, Bool.false_or]
    have e : i - (7 - l.length % 8) = (i - (7 - l.length % 8) - 1) + 1 := by omega
    rw [e]; cases b <;> simp [Nat.testBit_succ]
theorem pack_snoc (l : List Bool) (b : Bool) : pack (l ++ [b]) = ((List.range (l.length / 8 + 1)).map (byteAt l)).set (l.length / 8) (byteAt (l ++ [b]) (l.length / 8)) := by
  apply List.ext_getElem
  · simp [pack]; omega
  · intro i h1 h2
    simp only [pack, List.getElem_map, List.getElem_range, List.getElem_set]
    split
    · rename_i h; rw [h]
    · have : i < l.length / 8 + 1 := by simpa using h2
      exact byteAt_append (by omega)
theorem pack_grow (l : List Bool) (h : l.length % 8 = 0) : pack l ++ [0] = (List.range (l.length / 8 + 1)).map (byteAt l) := by
  rw [List.range_succ, List.map_append]
  have e : (l.length + 7) / 8 = l.length / 8 := by omega
  rw [pack, e]
  simp [byteAt_past (l := l) (j := l.length / 8) (by omega)]
theorem pack_stay (l : List Bool) (h : l.length % 8 ≠ 0) : pack l = (List.range (l.length / 8 + 1)).map (byteAt l) := by
  have e : (l.length + 7) / 8 = l.length / 8 + 1 := by omega
  rw [pack, e]
end Go.Proofs.Ytmojlfgfaabegaa.bt
