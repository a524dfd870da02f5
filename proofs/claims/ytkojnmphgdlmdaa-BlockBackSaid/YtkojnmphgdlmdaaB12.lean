/- The plain laws as the walks take them. -/
import Derived.Test.YtkojnmphgdlmdaaB11
namespace Go.Proofs.Ytkojnmphgdlmdaa
open Go.RowKit bt

theorem uniqL {f : Int} {m : List Bool} {R : Int × (Nat → Int) × Nat} (h : TR f m = R) (h0 : R.1 = 0) : pErr R.2.1 f = 0 ∧ bOut R.2.1 f = m.take R.2.2 ∧ R.2.2 ≤ m.length := by
  unfold TR at h
  split at h
  · rename_i hf
    obtain ⟨f0, rfl⟩ : ∃ f0 : Nat, f = (f0 : Int) := ⟨f.toNat, by omega⟩
    rw [Int.toNat_natCast] at h
    obtain ⟨_, h2, h3, h4⟩ := tk_uniq (65 - f0) z64 f0 m (by omega) (fun _ _ => rfl) (by rw [h]; exact h0)
    rw [h] at h2 h3 h4
    have hp := pErr_ok (x := R.2.1) hf (by rw [Int.toNat_natCast]; exact rgB_true.2 fun p _ hp => h2 p hp)
    rw [Int.toNat_natCast] at hp
    exact ⟨hp.1, by rw [hp.2, h3], h4⟩
  · subst h; cases h0
theorem backL {x : Nat → Int} {f : Int} (h : pErr x f = 0) (rest : List Bool) :
    (TR f (bOut x f ++ rest)).1 = 0 ∧ (TR f (bOut x f ++ rest)).2.2 = (bOut x f).length ∧ ∀ j, j < 64 → (TR f (bOut x f ++ rest)).2.1 j = if f = 1 ∧ j = 0 then 0 else x j := by
  by_cases hf : f = 0 ∨ f = 1
  · cases hr : rgB x f.toNat with
    | false => rw [(pErr_rng hf hr).1] at h; cases h
    | true =>
      have hx := rgB_true.1 hr
      rw [(pErr_ok hf hr).2]
      unfold TR
      rw [if_pos hf]
      obtain ⟨f0, rfl⟩ : ∃ f0 : Nat, f = (f0 : Int) := ⟨f.toNat, by omega⟩
      rw [Int.toNat_natCast] at hx ⊢
      obtain ⟨i1, i2, i3⟩ := tk_bc x (64 - f0) f0 f0 z64 (65 - f0) (by omega) (Nat.le_refl _) (Nat.le_refl _) (fun _ _ => rfl) (fun j h1 h2 => hx j h2 h1) rest
      rw [List.append_assoc]
      refine ⟨i1, by rw [i2, List.length_append], fun j hj => ?_⟩
      rw [i3 j]
      by_cases h2 : (f0 : Int) = 1 ∧ j = 0
      · rw [if_pos h2, if_neg (by omega)]; rfl
      · rw [if_neg h2, if_pos (by omega)]
  · rw [(pErr_bad hf).1] at h; cases h
theorem take1_err {n at_ : Nat} (h : at_ < n) : takeErr n at_ 1 = 0 := by unfold takeErr; rw [if_neg (by omega), if_neg (by show ¬ n < at_ + 1; omega)]
theorem take1_at {n at_ : Nat} (h : at_ < n) : takeAt n at_ 1 = at_ + 1 := by unfold takeAt; rw [if_pos (take1_err h)]; rfl
theorem take1_same {l : List Bool} {k i : Nat} (h : i < k) (hk : k ≤ l.length) : takeVal (l.take k) i 1 = takeVal l i 1 := by
  unfold takeVal
  rw [take1_err (by simp; omega), take1_err (by omega), if_pos rfl, if_pos rfl]
  have e : window (l.take k) i 1 = window l i 1 := by
    unfold window
    apply List.ext_getElem?
    intro j
    rw [List.getElem?_take, List.getElem?_take, List.getElem?_drop, List.getElem?_drop]
    by_cases hj : j < 1
    · rw [if_pos hj, if_pos hj, List.getElem?_take, if_pos (by omega)]
    · rw [if_neg hj, if_neg hj]
  show num (window (l.take k) i 1) = num (window l i 1)
  rw [e]
theorem takeVal_le (l : List Bool) (i : Nat) : takeVal l i 1 ≤ 1 := by
  unfold takeVal
  split
  · show num (window l i 1) ≤ 1
    have h1 := num_lt (window l i 1)
    have h2 : (window l i 1).length ≤ 1 := by unfold window; simp; omega
    have h3 : 2 ^ (window l i 1).length ≤ 2 ^ 1 := Nat.pow_le_pow_right (by omega) h2
    omega
  · omega
end Go.Proofs.Ytkojnmphgdlmdaa
