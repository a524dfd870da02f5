/- Levels in plain terms: samples, back, half a step. -/
import Derived.Test.YtdcbkmjmakogeaaQ5
import Derived.Test.YtdcbkmjmakogeaaTb
namespace Go.Proofs.Ytdcbkmjmakogeaa
open Go.RowKit

theorem half_mul (l s : Int) (hs : 0 < s) : (2 * (l * s) + s) / (2 * s) = l := by
  have e : 2 * (l * s) + s = s + 2 * s * l := by
    have : 2 * s * l = 2 * (l * s) := by rw [Int.mul_assoc, Int.mul_comm s l]
    rw [this]; omega
  rw [e, Int.add_mul_ediv_left _ _ (by omega), Int.ediv_eq_zero_of_lt (by omega) (by omega)]
  omega
theorem lv_mul (l s : Int) (hs : 0 < s) : lv (l * s) s = l := by
  unfold lv
  split
  · have := half_mul (-l) s hs
    rw [Int.neg_mul] at this
    rw [this]; omega
  · exact half_mul l s hs
theorem half_near (y s : Int) (hs : 0 < s) : -s ≤ 2 * ((2 * y + s) / (2 * s) * s - y) ∧ 2 * ((2 * y + s) / (2 * s) * s - y) ≤ s := by
  have h1 := Int.mul_ediv_add_emod (2 * y + s) (2 * s)
  have h2 := Int.emod_nonneg (2 * y + s) (show 2 * s ≠ 0 by omega)
  have h3 := Int.emod_lt_of_pos (2 * y + s) (show 0 < 2 * s by omega)
  generalize (2 * y + s) / (2 * s) = d at *
  have e : 2 * s * d = 2 * (d * s) := by rw [Int.mul_assoc, Int.mul_comm s d]
  rw [e] at h1
  omega
theorem lv_near (y s : Int) (hs : 0 < s) : -s ≤ 2 * (lv y s * s - y) ∧ 2 * (lv y s * s - y) ≤ s := by
  unfold lv
  split
  · have := half_near (-y) s hs
    rw [Int.neg_mul]
    omega
  · exact half_near y s hs
theorem lv_le {y s B : Int} (hs : 0 < s) (h : -(B * s) ≤ y ∧ y ≤ B * s) : -B ≤ lv y s ∧ lv y s ≤ B := by
  have hn := lv_near y s hs
  constructor
  · rcases (show lv y s < -B ∨ -B ≤ lv y s by omega) with h1 | h1
    · have h2 : lv y s * s ≤ (-B - 1) * s := Int.mul_le_mul_of_nonneg_right (by omega) (by omega)
      rw [Int.sub_mul, Int.neg_mul] at h2
      omega
    · exact h1
  · rcases (show B < lv y s ∨ lv y s ≤ B by omega) with h1 | h1
    · have h2 : (B + 1) * s ≤ lv y s * s := Int.mul_le_mul_of_nonneg_right (by omega) (by omega)
      rw [Int.add_mul] at h2
      omega
    · exact h1
theorem ab_gain : ∀ k : Fin 64, Ab (k.val / 8) * (Ab (k.val % 8) * 255) ≤ 4095 * (8 * Gk k.val) := by decide +kernel
theorem fw_level {x m : Nat → Int} {q : Int} (hx : Bd x 255) (hm : U8 m) (h : mayB m q = true) : inside (lvs (fw x) m q) 4095 64 = true := by
  refine inside_true.2 fun k hk => ?_
  have hq := may_q h
  have hv := may_v h k hk
  have hs := mqg_bd (m := m k) ⟨hv, (hm k hk).2⟩ hq hk
  have g := Gk_bd hk
  have h1 := fw_ab hx (k / 8) (k % 8) (by omega)
  rw [at8] at h1
  have h2 := ab_gain ⟨k, hk⟩
  simp only at h2
  have h3 : 8 * Gk k ≤ m k * q * Gk k := Int.mul_le_mul_of_nonneg_right (mq_bd ⟨hv, (hm k hk).2⟩ hq).1 (by omega)
  have h4 : 4095 * (8 * Gk k) ≤ 4095 * (m k * q * Gk k) := Int.mul_le_mul_of_nonneg_left h3 (by omega)
  unfold lvs
  exact lv_le (by omega) (by omega)
theorem lvs_dqs {l m : Nat → Int} {q : Int} (hm : U8 m) (h : mayB m q = true) (k : Nat) (hk : k < 64) : lvs (dqs l m q) m q k = l k := by
  have hs := mqg_bd (m := m k) ⟨may_v h k hk, (hm k hk).2⟩ (may_q h) hk
  unfold lvs dqs
  exact lv_mul _ _ (by omega)
theorem q_cases (y m : Nat → Int) (q : Int) : (qe y m q = 0 ∧ qz y m q = lvs y m q ∧ mayB m q = true ∧ inside (lvs y m q) 4095 64 = true) ∨ qe y m q = 1 ∨ qe y m q = 2 := by
  cases h : mayB m q with
  | false => exact .inr (.inl (badQ y m q h).2)
  | true =>
    cases h2 : inside (lvs y m q) 4095 64 with
    | false => exact .inr (.inr (outQ y m q h h2).2)
    | true => exact .inl ⟨(goodQ y m q h h2).2, (goodQ y m q h h2).1, rfl, rfl⟩
theorem d_cases (y m : Nat → Int) (q : Int) : (de y m q = 0 ∧ dz y m q = dqs y m q ∧ mayB m q = true ∧ inside y 4095 64 = true) ∨ de y m q = 1 ∨ de y m q = 2 := by
  cases h : mayB m q with
  | false => exact .inr (.inl (badD y m q h).2)
  | true =>
    cases h2 : inside y 4095 64 with
    | false => exact .inr (.inr (outD y m q h h2).2)
    | true => exact .inl ⟨(goodD y m q h h2).2, (goodD y m q h h2).1, rfl, rfl⟩
theorem dqs_bd {l m : Nat → Int} {q : Int} (hm : U8 m) (h : mayB m q = true) (h2 : inside l 4095 64 = true) (k : Nat) (hk : k < 64) : -1165355100 ≤ dqs l m q k ∧ dqs l m q k ≤ 1165355100 := by
  have hs := mqg_bd (m := m k) ⟨may_v h k hk, (hm k hk).2⟩ (may_q h) hk
  exact lvl_mul_bd (inside_true.1 h2 k hk) hs
end Go.Proofs.Ytdcbkmjmakogeaa
