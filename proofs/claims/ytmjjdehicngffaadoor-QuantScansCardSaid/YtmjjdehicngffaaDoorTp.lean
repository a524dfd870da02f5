/- The transform in plain terms: the sums that Forward and Inverse compute, and their bounds. -/
import Derived.Test.YtmjjdehicngffaaDoorT3
namespace Go.Proofs.YtmjjdehicngffaaDoor
open Go.RowKit

theorem sumTo_bd {f : Nat → Int} {B : Int} : ∀ n, (∀ k, k < n → -B ≤ f k ∧ f k ≤ B) → -(B * n) ≤ sumTo f n ∧ sumTo f n ≤ B * n
  | 0, _ => by simp [sumTo]
  | n + 1, h => by
    have ih := sumTo_bd n (fun k hk => h k (by omega))
    have hn := h n (by omega)
    have e : B * ((n + 1 : Nat) : Int) = B * n + B := by rw [Int.natCast_succ, Int.mul_add, Int.mul_one]
    rw [e]
    simp only [sumTo]
    omega
theorem sumTo_congr {f g : Nat → Int} : ∀ n, (∀ k, k < n → f k = g k) → sumTo f n = sumTo g n
  | 0, _ => rfl
  | n + 1, h => by simp only [sumTo]; rw [sumTo_congr n (fun k hk => h k (by omega)), h n (by omega)]
/-- A product of a bounded factor. -/
theorem mul_bd {a b A B : Int} (ha : -A ≤ a ∧ a ≤ A) (hb : -B ≤ b ∧ b ≤ B) : -(A * B) ≤ a * b ∧ a * b ≤ A * B := by
  have hA : 0 ≤ A := by omega
  have hB : 0 ≤ B := by omega
  have h : (a * b).natAbs ≤ (A * B).natAbs := by
    rw [Int.natAbs_mul, Int.natAbs_mul]
    exact Nat.mul_le_mul (by omega) (by omega)
  have : 0 ≤ A * B := Int.mul_nonneg hA hB
  omega

theorem wrap64_id {v : Int} (h : -9223372036854775808 ≤ v ∧ v ≤ 9223372036854775807) : wrap64 v = v := by unfold wrap64; omega
/-- One more summand, as the program adds it. -/
theorem wsum {f : Nat → Int} {l : Nat} {B : Int} (hl : l < 8) (hB : B ≤ 288230376151711744) (h : ∀ k, k < 8 → -B ≤ f k ∧ f k ≤ B) : wrap64 (sumTo f l + wrap64 (f l)) = sumTo f (l + 1) := by
  have h1 := h l hl
  have h2 := sumTo_bd l (fun k hk => h k (by omega))
  have h3 : B * (l : Int) ≤ B * 8 := Int.mul_le_mul_of_nonneg_left (by omega) (by omega)
  rw [wrap64_id (v := f l) (by omega), wrap64_id (by omega)]
  rfl

/-- Rows of a block, transformed. -/
def rowF (x : Nat → Int) (n : Nat) : Int := sumTo (fun l => T (n % 8) l * x (8 * (n / 8) + l)) 8
/-- The transform. -/
def fw (x : Nat → Int) (n : Nat) : Int := sumTo (fun k => T (n / 8) k * rowF x (8 * k + n % 8)) 8
theorem rowF_at (x : Nat → Int) (k j : Nat) (hj : j < 8) : rowF x (8 * k + j) = sumTo (fun l => T j l * x (8 * k + l)) 8 := by
  unfold rowF
  rw [show (8 * k + j) % 8 = j by omega, show (8 * k + j) / 8 = k by omega]
theorem fw_at (x : Nat → Int) (i j : Nat) (hj : j < 8) : fw x (8 * i + j) = sumTo (fun k => T i k * rowF x (8 * k + j)) 8 := by
  unfold fw
  rw [show (8 * i + j) % 8 = j by omega, show (8 * i + j) / 8 = i by omega]
/-- All 64 are at most B. -/
def Bd (x : Nat → Int) (B : Int) : Prop := ∀ n, n < 64 → -B ≤ x n ∧ x n ≤ B
theorem rowF_bd {x : Nat → Int} {B : Int} (h : Bd x B) : Bd (rowF x) (96 * B) := by
  intro n hn
  have := sumTo_bd (f := fun l => T (n % 8) l * x (8 * (n / 8) + l)) (B := 12 * B) 8 (fun l hl => mul_bd (T_bd (by omega) hl) (h _ (by omega)))
  unfold rowF
  omega
/-- The inverse: rows. -/
def rowI (y : Nat → Int) (n : Nat) : Int := sumTo (fun j => T j (n % 8) * Mm j * cl (y (8 * (n / 8) + j))) 8
def sumI (y : Nat → Int) (n : Nat) : Int := sumTo (fun i => T i (n / 8) * Mm i * rowI y (8 * i + n % 8)) 8
def inv (y : Nat → Int) (n : Nat) : Int := near (sumI y n)
theorem rowI_at (y : Nat → Int) (i l : Nat) (hl : l < 8) : rowI y (8 * i + l) = sumTo (fun j => T j l * Mm j * cl (y (8 * i + j))) 8 := by
  unfold rowI
  rw [show (8 * i + l) % 8 = l by omega, show (8 * i + l) / 8 = i by omega]
theorem sumI_at (y : Nat → Int) (k l : Nat) (hl : l < 8) : sumI y (8 * k + l) = sumTo (fun i => T i k * Mm i * rowI y (8 * i + l)) 8 := by
  unfold sumI
  rw [show (8 * k + l) % 8 = l by omega, show (8 * k + l) / 8 = k by omega]
theorem TM_le : ∀ i : Fin 8, ∀ k : Fin 8, -18496 ≤ T i.val k.val * Mm i.val ∧ T i.val k.val * Mm i.val ≤ 18496 := by decide +kernel
theorem TM_bd {i k : Nat} (hi : i < 8) (hk : k < 8) : -18496 ≤ T i k * Mm i ∧ T i k * Mm i ≤ 18496 := TM_le ⟨i, hi⟩ ⟨k, hk⟩
theorem rowI_bd (y : Nat → Int) : Bd (rowI y) 310311387136 := by
  intro n hn
  have := sumTo_bd (f := fun j => T j (n % 8) * Mm j * cl (y (8 * (n / 8) + j))) (B := 18496 * 2097152) 8 (fun j hj => mul_bd (TM_bd hj (by omega)) (cl_bd _))
  unfold rowI
  omega
theorem sumI_bd (y : Nat → Int) : Bd (sumI y) 45916155331739648 := by
  intro n hn
  have := sumTo_bd (f := fun i => T i (n / 8) * Mm i * rowI y (8 * i + n % 8)) (B := 18496 * 310311387136) 8 (fun i hi => mul_bd (TM_bd hi (by omega)) (rowI_bd y _ (by omega)))
  unfold sumI
  omega
end Go.Proofs.YtmjjdehicngffaaDoor
