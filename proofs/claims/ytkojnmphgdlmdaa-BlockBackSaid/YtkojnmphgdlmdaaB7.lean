/- Reading a block: the plain function, and the contract of read. -/
import Derived.Test.YtkojnmphgdlmdaaB6
namespace Go.Proofs.Ytkojnmphgdlmdaa
open Go.RowKit bt

def z64 : Nat → Int := fun _ => 0
/-- What is read: the error, the levels, the number of bits (if there is no error). -/
def tk : Nat → (Nat → Int) → Nat → List Bool → Int × (Nat → Int) × Nat
  | 0, _, _, _ => (3, z64, 0)
  | k + 1, x, a, m =>
    if uErr m ≠ 0 then (uErr m, z64, 0)
    else if uVal m = 0 then (0, x, uLen m)
    else if 63 < a + uVal m - 1 then (3, z64, 0)
    else if uErr (m.drop (uLen m)) ≠ 0 then (uErr (m.drop (uLen m)), z64, 0)
    else if sTake (m.drop (uLen m)) = 0 ∨ lvl (sTake (m.drop (uLen m))) = false then (3, z64, 0)
    else
      ((tk k (upd x (a + uVal m - 1) (sTake (m.drop (uLen m)))) (a + uVal m - 1 + 1) ((m.drop (uLen m)).drop (uLen (m.drop (uLen m))))).1,
       (tk k (upd x (a + uVal m - 1) (sTake (m.drop (uLen m)))) (a + uVal m - 1 + 1) ((m.drop (uLen m)).drop (uLen (m.drop (uLen m))))).2.1,
       uLen m + uLen (m.drop (uLen m)) + (tk k (upd x (a + uVal m - 1) (sTake (m.drop (uLen m)))) (a + uVal m - 1 + 1) ((m.drop (uLen m)).drop (uLen (m.drop (uLen m))))).2.2)
theorem tk_fuel : ∀ (k j : Nat) (x : Nat → Int) (a : Nat) (m : List Bool), 65 - a ≤ k → 65 - a ≤ j → a ≤ 64 → tk k x a m = tk j x a m
  | 0, j, x, a, m, h1, h2, h3 => by omega
  | k + 1, 0, x, a, m, h1, h2, h3 => by omega
  | k + 1, j + 1, x, a, m, h1, h2, h3 => by
    simp only [tk]
    split
    · rfl
    · split
      · rfl
      · split
        · rfl
        · split
          · rfl
          · split
            · rfl
            · rw [tk_fuel k j _ _ _ (by omega) (by omega) (by omega)]
/-- How far the reading has come: R is what it comes to. -/
structure TI (l : List Bool) (at0 : Nat) (R : Int × (Nat → Int) × Nat) (x : Nat → Int) (a at_ : Nat) : Prop where
  le : at0 ≤ at_
  a64 : a ≤ 64
  e1 : R.1 = (tk (65 - a) x a (l.drop at_)).1
  e2 : R.2.1 = (tk (65 - a) x a (l.drop at_)).2.1
  e3 : R.2.2 + at0 = (tk (65 - a) x a (l.drop at_)).2.2 + at_
section
variable {l : List Bool} {at0 : Nat} {R : Int × (Nat → Int) × Nat} {x : Nat → Int} {a at_ : Nat}
theorem TI.start (l : List Bool) (at0 f : Nat) (hf : f ≤ 64) : TI l at0 (tk (65 - f) z64 f (l.drop at0)) z64 f at0 := ⟨Nat.le_refl _, hf, rfl, rfl, rfl⟩
theorem TI.un (h : TI l at0 R x a at_) : ∃ k, 65 - a = k + 1 := ⟨64 - a, by have := h.a64; omega⟩
theorem TI.err1 (h : TI l at0 R x a at_) (he : uErr (l.drop at_) ≠ 0) : R.1 = uErr (l.drop at_) := by
  obtain ⟨k, hk⟩ := h.un
  rw [h.e1, hk, tk, if_pos he]
theorem TI.fin (h : TI l at0 R x a at_) (he : uErr (l.drop at_) = 0) (hv : uVal (l.drop at_) = 0) : R.1 = 0 ∧ R.2.1 = x ∧ at0 + R.2.2 = at_ + uLen (l.drop at_) := by
  obtain ⟨k, hk⟩ := h.un
  have e : tk (65 - a) x a (l.drop at_) = (0, x, uLen (l.drop at_)) := by rw [hk, tk, if_neg (by simp [he]), if_pos hv]
  have h3 := h.e3
  rw [e] at h3
  exact ⟨by rw [h.e1, e], by rw [h.e2, e], by simp only at h3; omega⟩
theorem TI.err2 (h : TI l at0 R x a at_) (he : uErr (l.drop at_) = 0) (hv : uVal (l.drop at_) ≠ 0) (ha : 63 < a + uVal (l.drop at_) - 1) : R.1 = 3 := by
  obtain ⟨k, hk⟩ := h.un
  rw [h.e1, hk, tk, if_neg (by simp [he]), if_neg hv, if_pos ha]
theorem TI.err3 (h : TI l at0 R x a at_) (he : uErr (l.drop at_) = 0) (hv : uVal (l.drop at_) ≠ 0) (ha : ¬ 63 < a + uVal (l.drop at_) - 1) (he2 : uErr (l.drop (at_ + uLen (l.drop at_))) ≠ 0) : R.1 = uErr (l.drop (at_ + uLen (l.drop at_))) := by
  obtain ⟨k, hk⟩ := h.un
  rw [← List.drop_drop] at he2 ⊢
  rw [h.e1, hk, tk, if_neg (by simp [he]), if_neg hv, if_neg ha, if_pos he2]
theorem TI.err4 (h : TI l at0 R x a at_) (he : uErr (l.drop at_) = 0) (hv : uVal (l.drop at_) ≠ 0) (ha : ¬ 63 < a + uVal (l.drop at_) - 1) (he2 : uErr (l.drop (at_ + uLen (l.drop at_))) = 0)
    (hs : sTake (l.drop (at_ + uLen (l.drop at_))) = 0 ∨ lvl (sTake (l.drop (at_ + uLen (l.drop at_)))) = false) : R.1 = 3 := by
  obtain ⟨k, hk⟩ := h.un
  rw [← List.drop_drop] at he2 hs
  rw [h.e1, hk, tk, if_neg (by simp [he]), if_neg hv, if_neg ha, if_neg (fun h => h he2), if_pos hs]
theorem TI.step (h : TI l at0 R x a at_) (he : uErr (l.drop at_) = 0) (hv : uVal (l.drop at_) ≠ 0) (ha : ¬ 63 < a + uVal (l.drop at_) - 1) (he2 : uErr (l.drop (at_ + uLen (l.drop at_))) = 0)
    (hs : ¬ (sTake (l.drop (at_ + uLen (l.drop at_))) = 0 ∨ lvl (sTake (l.drop (at_ + uLen (l.drop at_)))) = false)) :
    TI l at0 R (upd x (a + uVal (l.drop at_) - 1) (sTake (l.drop (at_ + uLen (l.drop at_))))) (a + uVal (l.drop at_) - 1 + 1) (at_ + uLen (l.drop at_) + uLen (l.drop (at_ + uLen (l.drop at_)))) := by
  obtain ⟨k, hk⟩ := h.un
  have h1 := h.e1; have h2 := h.e2; have h3 := h.e3
  have ha64 := h.a64
  have he2' := he2
  have hs' := hs
  rw [← List.drop_drop] at he2' hs'
  rw [hk, tk, if_neg (by simp [he]), if_neg hv, if_neg ha, if_neg (fun h => h he2'), if_neg hs'] at h1 h2 h3
  have hf := tk_fuel k (65 - (a + uVal (l.drop at_) - 1 + 1)) (upd x (a + uVal (l.drop at_) - 1) (sTake ((l.drop at_).drop (uLen (l.drop at_))))) (a + uVal (l.drop at_) - 1 + 1)
    (((l.drop at_).drop (uLen (l.drop at_))).drop (uLen ((l.drop at_).drop (uLen (l.drop at_))))) (by omega) (by omega) (by omega)
  rw [hf] at h1 h2 h3
  simp only [List.drop_drop] at h1 h2 h3
  refine ⟨by have := h.le; omega, by omega, h1, h2, ?_⟩
  omega
end
theorem z64_arr : arr .i64 64 (fun _ => 0) = arr .i64 64 z64 := rfl
end Go.Proofs.Ytkojnmphgdlmdaa
