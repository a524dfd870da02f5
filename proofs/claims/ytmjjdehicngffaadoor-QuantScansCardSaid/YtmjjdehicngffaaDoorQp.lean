/- Levels in plain terms. -/
import Derived.Test.YtmjjdehicngffaaDoorQ2
namespace Go.Proofs.YtmjjdehicngffaaDoor
open Go.RowKit

/-- The level of y at step s: the nearest integer to y / s, halves away from zero. -/
def lv (y s : Int) : Int := if y < 0 then -((2 * (-y) + s) / (2 * s)) else (2 * y + s) / (2 * s)
theorem half_up (y s : Int) (hs : 0 < s) : (2 * y + s) / (2 * s) = y / s + if s - y % s ≤ y % s then 1 else 0 := by
  have h1 := Int.mul_ediv_add_emod y s
  have h2 := Int.emod_nonneg y (show s ≠ 0 by omega)
  have h3 := Int.emod_lt_of_pos y hs
  generalize y / s = d at h1
  generalize y % s = r at h1 h2 h3
  have e : 2 * y + s = (2 * r + s) + 2 * s * d := by
    have : 2 * s * d = 2 * (s * d) := by rw [Int.mul_assoc]
    rw [this]; omega
  rw [e, Int.add_mul_ediv_left _ _ (by omega)]
  split
  · have e2 : 2 * r + s = (2 * r - s) + 2 * s * 1 := by omega
    rw [e2, Int.add_mul_ediv_left _ _ (by omega), Int.ediv_eq_zero_of_lt (by omega) (by omega)]
    omega
  · rw [Int.ediv_eq_zero_of_lt (by omega) (by omega)]
    omega
theorem lv_pos {y s : Int} (hy : 0 ≤ y) (hs : 0 < s) : lv y s = y / s + if s - y % s ≤ y % s then 1 else 0 := by
  unfold lv; rw [if_neg (by omega), half_up y s hs]
theorem lv_neg {z s : Int} (hz : 0 < z) (hs : 0 < s) : lv (-z) s = -(z / s + if s - z % s ≤ z % s then 1 else 0) := by
  unfold lv; rw [if_pos (by omega), Int.neg_neg, half_up z s hs]
theorem tdiv_neg_ {z s : Int} (hz : 0 < z) : (-z).tdiv s = -(z / s) := by rw [Int.neg_tdiv, Int.tdiv_eq_ediv_of_nonneg (by omega)]
theorem tmod_neg_ {z s : Int} (hz : 0 < z) : (-z).tmod s = -(z % s) := by rw [Int.neg_tmod, Int.tmod_eq_emod_of_nonneg (by omega)]
theorem div_le {z s : Int} (hz : 0 ≤ z) (hs : 0 < s) : 0 ≤ z / s ∧ z / s ≤ z := ⟨Int.ediv_nonneg hz (by omega), Int.ediv_le_self _ hz⟩
theorem mod_bd (z : Int) {s : Int} (hs : 0 < s) : 0 ≤ z % s ∧ z % s < s := ⟨Int.emod_nonneg z (by omega), Int.emod_lt_of_pos z hs⟩
theorem div160 {z s : Int} (hz : 0 ≤ z) (hs : 160 ≤ s) : z / s ≤ z / 160 := by
  have h1 := Int.mul_ediv_add_emod z s
  have h2 := mod_bd z (s := s) (by omega)
  have h3 := div_le (z := z) (s := s) hz (by omega)
  have h4 : 160 * (z / s) ≤ s * (z / s) := Int.mul_le_mul_of_nonneg_right hs h3.1
  exact Int.le_ediv_of_mul_le (by omega) (by omega)

end Go.Proofs.YtmjjdehicngffaaDoor
