/- Plain facts on the codes of chapter 4. No program in sight, no condition. -/
import Derived.Test.YtkojnmphgdlmdaaBits2
namespace Go.Proofs.Ytkojnmphgdlmdaa.bt

/-- The number of bits 0 of the code of v. -/
def hlf (v : Nat) : Nat := (v + 1).log2
/-- The code of v. -/
def code (v : Nat) : List Bool := List.replicate (hlf v) false ++ bitsOf (v + 1) (hlf v + 1)
/-- How many bits 0 there are ahead of the first bit 1. -/
def zrun (m : List Bool) : Nat := (m.takeWhile fun b => !b).length
def uErr (m : List Bool) : Int := if 16 ≤ zrun m then 3 else if m.length < 2 * zrun m + 1 then 4 else 0
def uVal (m : List Bool) : Nat := if uErr m = 0 then 2 ^ zrun m + num ((m.drop (zrun m + 1)).take (zrun m)) - 1 else 0
def uLen (m : List Bool) : Nat := if uErr m = 0 then 2 * zrun m + 1 else 0
/-- The signed number that an unsigned one stands for. -/
def sVal (n : Nat) : Int := if n % 2 = 1 then ((n : Int) + 1) / 2 else -((n : Int) / 2)
/-- The unsigned number that stands for a signed one. -/
def fold (v : Int) : Nat := if 0 < v then (2 * v - 1).toNat else (-2 * v).toNat

theorem hlf_spec (v : Nat) : 2 ^ hlf v ≤ v + 1 ∧ v + 1 < 2 ^ (hlf v + 1) := (Nat.log2_eq_iff (by omega)).1 rfl
theorem hlf_of {v k : Nat} (h1 : 2 ^ k ≤ v + 1) (h2 : v + 1 < 2 ^ (k + 1)) : hlf v = k := (Nat.log2_eq_iff (by omega)).2 ⟨h1, h2⟩
theorem hlf_mono {a b : Nat} (h : a ≤ b) : hlf a ≤ hlf b := by
  have h1 := hlf_spec a
  have h2 := hlf_spec b
  have : 2 ^ hlf a < 2 ^ (hlf b + 1) := by omega
  have := (Nat.pow_lt_pow_iff_right (by omega : 1 < 2)).1 this
  omega
theorem hlf_le {v : Nat} (h : v ≤ 65534) : hlf v ≤ 15 := by
  have h1 := hlf_spec v
  have : 2 ^ hlf v < 2 ^ 16 := by omega
  have := (Nat.pow_lt_pow_iff_right (by omega : 1 < 2)).1 this
  omega
theorem code_length (v : Nat) : (code v).length = 2 * hlf v + 1 := by simp [code, bitsOf_length]; omega
theorem bitsOf_zero (k : Nat) : bitsOf 0 k = List.replicate k false := by
  apply List.ext_getElem
  · simp [bitsOf]
  · intro i h1 h2; simp [bitsOf]
theorem bitsOf_cons (x k : Nat) : bitsOf x (k + 1) = x.testBit k :: bitsOf x k := by
  unfold bitsOf
  rw [List.range_succ_eq_map, List.map_cons, List.map_map]
  simp only [Nat.add_sub_cancel, Nat.sub_zero, List.cons.injEq, true_and]
  apply List.map_congr_left
  intro i _
  simp only [Function.comp]
  congr 1; omega
theorem top_bit {x k : Nat} (h1 : 2 ^ k ≤ x) (h2 : x < 2 ^ (k + 1)) : x.testBit k = true := by
  rw [Nat.testBit_eq_decide_div_mod_eq]
  have h3 : x / 2 ^ k = 1 := by
    apply Nat.le_antisymm
    · have : x / 2 ^ k < 2 := by rw [Nat.div_lt_iff_lt_mul (Nat.two_pow_pos k)]; rw [Nat.pow_succ] at h2; omega
      omega
    · exact (Nat.le_div_iff_mul_le (Nat.two_pow_pos k)).2 (by omega)
  rw [h3]; rfl
theorem code_eq (v : Nat) : code v = List.replicate (hlf v) false ++ true :: bitsOf (v + 1) (hlf v) := by
  unfold code
  rw [bitsOf_cons, top_bit (hlf_spec v).1 (hlf_spec v).2]
theorem zrun_of (k : Nat) (rest : List Bool) : zrun (List.replicate k false ++ true :: rest) = k := by
  unfold zrun
  induction k with
  | zero => simp
  | succ k ih => rw [List.replicate_succ, List.cons_append, List.takeWhile_cons]; simp
theorem zrun_code (v : Nat) (rest : List Bool) : zrun (code v ++ rest) = hlf v := by
  rw [code_eq, List.append_assoc, List.cons_append]; exact zrun_of _ _
theorem uErr_code {v : Nat} (h : v ≤ 65534) (rest : List Bool) : uErr (code v ++ rest) = 0 := by
  unfold uErr
  have := hlf_le h
  rw [zrun_code, if_neg (by omega), if_neg (by simp [code_length])]
theorem uVal_code {v : Nat} (h : v ≤ 65534) (rest : List Bool) : uVal (code v ++ rest) = v := by
  unfold uVal
  rw [if_pos (uErr_code h rest), zrun_code]
  have e : ((code v ++ rest).drop (hlf v + 1)).take (hlf v) = bitsOf (v + 1) (hlf v) := by
    rw [code_eq]
    have e1 : List.replicate (hlf v) false ++ true :: bitsOf (v + 1) (hlf v) ++ rest = (List.replicate (hlf v) false ++ [true]) ++ (bitsOf (v + 1) (hlf v) ++ rest) := by simp
    rw [e1]
    have e2 : (List.replicate (hlf v) false ++ [true]).length = hlf v + 1 := by simp
    rw [← e2, List.drop_left]
    have := List.take_left (l₁ := bitsOf (v + 1) (hlf v)) (l₂ := rest)
    rwa [bitsOf_length] at this
  rw [e, num_bitsOf]
  obtain ⟨h1, h2⟩ := hlf_spec v
  have h3 : (v + 1) % 2 ^ hlf v = v + 1 - 2 ^ hlf v := by
    rw [Nat.mod_eq_sub_mod h1, Nat.mod_eq_of_lt (by rw [Nat.pow_succ] at h2; omega)]
  omega
theorem uLen_code {v : Nat} (h : v ≤ 65534) (rest : List Bool) : uLen (code v ++ rest) = (code v).length := by
  unfold uLen
  rw [if_pos (uErr_code h rest), zrun_code, code_length]
theorem fold_le {v : Int} (h1 : -32767 ≤ v) (h2 : v ≤ 32767) : fold v ≤ 65534 := by unfold fold; split <;> omega
theorem sVal_fold (v : Int) : sVal (fold v) = v := by
  unfold sVal fold
  split <;> split <;> omega

/-- What zrun says: the bits ahead of it are 0, and the one behind them (if there is one) is 1. -/
theorem zrun_le (m : List Bool) : zrun m ≤ m.length := (List.takeWhile_prefix _).length_le
theorem zrun_zero : ∀ (m : List Bool) (i : Nat), i < zrun m → m[i]? = some false
  | [], i, h => by simp [zrun] at h
  | true :: m, i, h => by simp [zrun] at h
  | false :: m, 0, _ => by simp
  | false :: m, i + 1, h => by
    have : i < zrun m := by simp [zrun] at h ⊢; exact h
    simpa using zrun_zero m i this
theorem zrun_one : ∀ (m : List Bool), zrun m < m.length → m[zrun m]? = some true
  | [], h => by simp at h
  | true :: m, _ => by simp [zrun]
  | false :: m, h => by
    have e : zrun (false :: m) = zrun m + 1 := by simp [zrun]
    rw [e] at h ⊢
    simpa using zrun_one m (by simpa using h)
end Go.Proofs.Ytkojnmphgdlmdaa.bt
