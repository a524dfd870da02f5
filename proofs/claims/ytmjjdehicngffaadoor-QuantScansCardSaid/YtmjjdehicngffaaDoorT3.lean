/- Contracts of chapter 5's small functions: Basis, Norm (both), Clamp, nearest. -/
import Derived.Test.YtmjjdehicngffaaDoorT2
namespace Go.Proofs.YtmjjdehicngffaaDoor
open Go.RowKit

theorem Tm_at (i k : Nat) (hk : k < 8) : Tm (i * 8 + k) = T i k := by
  unfold Tm
  rw [show (i * 8 + k) / 8 = i by omega, show (i * 8 + k) % 8 = k by omega]
theorem T_le : ∀ i : Fin 8, ∀ k : Fin 8, -12 ≤ T i.val k.val ∧ T i.val k.val ≤ 12 := by decide +kernel
theorem T_bd {i k : Nat} (hi : i < 8) (hk : k < 8) : -12 ≤ T i k ∧ T i k ≤ 12 := T_le ⟨i, hi⟩ ⟨k, hk⟩

/-- v brought into the range. -/
def cl (v : Int) : Int := max (-2097152) (min v 2097152)
theorem cl_bd (v : Int) : -2097152 ≤ cl v ∧ cl v ≤ 2097152 := by unfold cl; omega
/-- The integer nearest to s / Scale^2. -/
def near (s : Int) : Int := (2 * s + 547363225600) / 1094726451200
theorem tdiv_neg (a : Int) (h : a.tmod 1094726451200 < 0) : a.tdiv 1094726451200 - 1 = a / 1094726451200 := by
  rw [Int.tmod_eq_emod] at h
  rw [Int.tdiv_eq_ediv]
  split at h
  · omega
  · rename_i hn
    rw [if_neg hn]
    have : Int.sign 1094726451200 = 1 := rfl
    omega
theorem tdiv_pos (a : Int) (h : 0 ≤ a.tmod 1094726451200) : a.tdiv 1094726451200 = a / 1094726451200 := by
  rw [Int.tmod_eq_emod] at h
  rw [Int.tdiv_eq_ediv]
  split at h
  · rename_i hn
    rw [if_pos hn]; omega
  · rename_i hn
    omega
/-- M: Scale / Norm. -/
def Mm (i : Nat) : Int := ([1445, 1280, 2312, 1280, 1445, 1280, 2312, 1280] : List Int).getD i 0
theorem Nm_sum : ∀ i : Fin 8, ((List.range 8).map fun k => T i.val k * T i.val k).sum = Nm i.val := by decide +kernel
/-- The sum of the first n values. -/
def sumTo (f : Nat → Int) : Nat → Int
  | 0 => 0
  | n + 1 => sumTo f n + f n
theorem Nm_sumTo : ∀ i : Fin 8, sumTo (fun k => T i.val k * T i.val k) 8 = Nm i.val := by decide +kernel
end Go.Proofs.YtmjjdehicngffaaDoor
