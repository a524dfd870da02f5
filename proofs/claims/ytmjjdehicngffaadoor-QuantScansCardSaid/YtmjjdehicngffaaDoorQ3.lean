/- Contracts of chapter 6's Quantise and Dequantise, in the program and in the reference. -/
import Derived.Test.YtmjjdehicngffaaDoorQp
import Derived.Test.YtmjjdehicngffaaDoorRegA
namespace Go.Proofs.YtmjjdehicngffaaDoor
open Go.RowKit

/-- The steps, the levels, the values. -/
def stp (m : Nat → Int) (q : Int) (k : Nat) : Int := m k * q * Gk k
def lvs (y m : Nat → Int) (q : Int) : Nat → Int := fun k => lv (y k) (m k * q * Gk k)
def dqs (l m : Nat → Int) (q : Int) : Nat → Int := fun k => l k * (m k * q * Gk k)
def qz (y m : Nat → Int) (q : Int) : Nat → Int := if mayB m q = true ∧ inside (lvs y m q) 4095 64 = true then lvs y m q else fun _ => 0
def qe (y m : Nat → Int) (q : Int) : Int := if mayB m q = true then (if inside (lvs y m q) 4095 64 = true then 0 else 2) else 1
def dz (y m : Nat → Int) (q : Int) : Nat → Int := if mayB m q = true ∧ inside y 4095 64 = true then dqs y m q else fun _ => 0
def de (y m : Nat → Int) (q : Int) : Int := if mayB m q = true then (if inside y 4095 64 = true then 0 else 2) else 1
theorem may_q {m : Nat → Int} {q : Int} (h : mayB m q = true) : 1 ≤ q ∧ q ≤ 31 := by
  unfold mayB at h; rw [Bool.and_eq_true] at h; exact vq_true.1 h.2
theorem may_v {m : Nat → Int} {q : Int} (h : mayB m q = true) : ∀ j, j < 64 → 8 ≤ m j := by
  unfold mayB at h; rw [Bool.and_eq_true] at h; exact vld_true.1 h.1
theorem badQ (y m : Nat → Int) (q : Int) (h : mayB m q = false) : (qz y m q = fun _ => 0) ∧ qe y m q = 1 := by unfold qz qe; simp [h]
theorem outQ (y m : Nat → Int) (q : Int) (h : mayB m q = true) (h2 : inside (lvs y m q) 4095 64 = false) : (qz y m q = fun _ => 0) ∧ qe y m q = 2 := by unfold qz qe; simp [h, h2]
theorem goodQ (y m : Nat → Int) (q : Int) (h : mayB m q = true) (h2 : inside (lvs y m q) 4095 64 = true) : qz y m q = lvs y m q ∧ qe y m q = 0 := by unfold qz qe; simp [h, h2]
theorem badD (y m : Nat → Int) (q : Int) (h : mayB m q = false) : (dz y m q = fun _ => 0) ∧ de y m q = 1 := by unfold dz de; simp [h]
theorem outD (y m : Nat → Int) (q : Int) (h : mayB m q = true) (h2 : inside y 4095 64 = false) : (dz y m q = fun _ => 0) ∧ de y m q = 2 := by unfold dz de; simp [h, h2]
theorem goodD (y m : Nat → Int) (q : Int) (h : mayB m q = true) (h2 : inside y 4095 64 = true) : dz y m q = dqs y m q ∧ de y m q = 0 := by unfold dz de; simp [h, h2]
theorem lvl_mul_bd {l s : Int} (h : -4095 ≤ l ∧ l ≤ 4095) (hs : 160 ≤ s ∧ s ≤ 284580) : -1165355100 ≤ l * s ∧ l * s ≤ 1165355100 := by
  have := mul_bd (A := 4095) (B := 284580) h (b := s) (by omega)
  omega

theorem lv_bd {y s : Int} (hy : -9223372036854775808 ≤ y ∧ y ≤ 9223372036854775807) (hs : 160 ≤ s ∧ s ≤ 284580) : -57646075230342350 ≤ lv y s ∧ lv y s ≤ 57646075230342350 := by
  by_cases h : y < 0
  · obtain ⟨z, rfl⟩ : ∃ z, y = -z := ⟨-y, by omega⟩
    rw [lv_neg (by omega) (by omega)]
    have := div160 (z := z) (s := s) (by omega) (by omega)
    have := div_le (z := z) (s := s) (by omega) (by omega)
    split <;> omega
  · rw [lv_pos (by omega) (by omega)]
    have := div160 (z := y) (s := s) (by omega) (by omega)
    have := div_le (z := y) (s := s) (by omega) (by omega)
    split <;> omega

end Go.Proofs.YtmjjdehicngffaaDoor
