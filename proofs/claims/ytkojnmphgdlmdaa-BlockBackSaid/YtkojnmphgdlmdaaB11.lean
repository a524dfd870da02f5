/- Plain laws: what is written is read back; what is read is what would be written. -/
import Derived.Test.YtkojnmphgdlmdaaB10
namespace Go.Proofs.Ytkojnmphgdlmdaa
open Go.RowKit bt

section
theorem u_of {v : Int} (h : 0 ≤ v ∧ v ≤ 65534) (rest : List Bool) : uErr (uCode v ++ rest) = 0 ∧ (uVal (uCode v ++ rest) : Int) = v ∧ uLen (uCode v ++ rest) = (uCode v).length := by
  rw [uCode_of h]
  have h1 : v.toNat ≤ 65534 := by omega
  rw [uErr_code h1, uVal_code h1, uLen_code h1]
  exact ⟨rfl, by omega, rfl⟩
theorem s_of {v : Int} (h : -4095 ≤ v ∧ v ≤ 4095) (rest : List Bool) : uErr (sCode v ++ rest) = 0 ∧ sTake (sCode v ++ rest) = v ∧ uLen (sCode v ++ rest) = (sCode v).length := by
  rw [sCode_of h]
  have h1 := fold_le (v := v) (by omega) (by omega)
  have h2 := uErr_code h1 rest
  refine ⟨h2, ?_, uLen_code h1 rest⟩
  unfold sTake
  rw [if_pos h2, uVal_code h1, sVal_fold]
theorem drop_app (a b : List Bool) : (a ++ b).drop a.length = b := by simp
/-- What is written is read back. -/
theorem tk_bc (x : Nat → Int) : ∀ (k p a : Nat) (y : Nat → Int) (K : Nat), p + k = 64 → a ≤ p → 65 - a ≤ K → (∀ j, p ≤ j → y j = 0) → (∀ j, p ≤ j → j < 64 → -4095 ≤ x j ∧ x j ≤ 4095) → ∀ rest,
    (tk K y a (bc x k p a ++ (uCode 0 ++ rest))).1 = 0 ∧ (tk K y a (bc x k p a ++ (uCode 0 ++ rest))).2.2 = (bc x k p a).length + (uCode 0).length ∧ ∀ j, (tk K y a (bc x k p a ++ (uCode 0 ++ rest))).2.1 j = if p ≤ j ∧ j < 64 then x j else y j
  | 0, p, a, y, K, hp, ha, hK, hy, hx, rest => by
    obtain ⟨K', rfl⟩ : ∃ K', K = K' + 1 := ⟨K - 1, by omega⟩
    obtain ⟨h1, h2, h3⟩ := u_of (v := 0) (by omega) rest
    have h2' : uVal (uCode 0 ++ rest) = 0 := by omega
    have e : tk (K' + 1) y a (bc x 0 p a ++ (uCode 0 ++ rest)) = (0, y, (uCode 0).length) := by
      simp only [bc, List.nil_append]
      rw [tk, if_neg (fun h => h h1), if_pos h2', h3]
    rw [e]
    refine ⟨rfl, by simp [bc], fun j => ?_⟩
    rw [if_neg (by omega)]
  | k + 1, p, a, y, K, hp, ha, hK, hy, hx, rest => by
    by_cases hz : x p = 0
    · have e : bc x (k + 1) p a = bc x k (p + 1) a := by simp only [bc]; rw [if_pos hz]
      rw [e]
      obtain ⟨i1, i2, i3⟩ := tk_bc x k (p + 1) a y K (by omega) (by omega) hK (fun j hj => hy j (by omega)) (fun j h1 h2 => hx j (by omega) h2) rest
      refine ⟨i1, i2, fun j => ?_⟩
      rw [i3 j]
      by_cases hj : j = p
      · subst hj
        rw [if_neg (by omega), if_pos (by omega), hy j (by omega), hz]
      · by_cases h2 : p + 1 ≤ j ∧ j < 64
        · rw [if_pos h2, if_pos (by omega)]
        · rw [if_neg h2, if_neg (by omega)]
    · obtain ⟨K', rfl⟩ : ∃ K', K = K' + 1 := ⟨K - 1, by omega⟩
      have hlv := hx p (Nat.le_refl _) (by omega)
      have e : bc x (k + 1) p a ++ (uCode 0 ++ rest) = uCode ((p : Int) - a + 1) ++ (sCode (x p) ++ (bc x k (p + 1) (p + 1) ++ (uCode 0 ++ rest))) := by
        simp only [bc]
        rw [if_neg hz]
        simp
      have el : (bc x (k + 1) p a).length = (uCode ((p : Int) - a + 1)).length + (sCode (x p)).length + (bc x k (p + 1) (p + 1)).length := by
        simp only [bc]
        rw [if_neg hz]
        simp; omega
      rw [e, el]
      obtain ⟨h1, h2, h3⟩ := u_of (v := (p : Int) - a + 1) (by omega) (sCode (x p) ++ (bc x k (p + 1) (p + 1) ++ (uCode 0 ++ rest)))
      obtain ⟨g1, g2, g3⟩ := s_of hlv (bc x k (p + 1) (p + 1) ++ (uCode 0 ++ rest))
      obtain ⟨i1, i2, i3⟩ := tk_bc x k (p + 1) (p + 1) (upd y p (x p)) K' (by omega) (by omega) (by omega) (fun j hj => by unfold upd; rw [if_neg (by omega)]; exact hy j (by omega)) (fun j h1 h2 => hx j (by omega) h2) rest
      have hva : a + uVal (uCode ((p : Int) - a + 1) ++ (sCode (x p) ++ (bc x k (p + 1) (p + 1) ++ (uCode 0 ++ rest)))) - 1 = p := by omega
      have hlt : lvl (x p) = true := by unfold lvl; exact decide_eq_true hlv
      rw [tk, if_neg (fun h => h h1), if_neg (by omega), hva, if_neg (by omega), h3, drop_app, if_neg (fun h => h g1), g2, if_neg (by simp [hz, hlt]), g3, drop_app]
      refine ⟨i1, by simp only; rw [i2]; omega, fun j => ?_⟩
      simp only
      rw [i3 j]
      unfold upd
      by_cases hj : j = p
      · subst hj
        rw [if_neg (by omega), if_pos rfl, if_pos (by omega)]
      · by_cases h2 : p + 1 ≤ j ∧ j < 64
        · rw [if_pos h2, if_pos (by omega)]
        · rw [if_neg h2, if_neg hj, if_neg (by omega)]
theorem bitsOf_mod (v n : Nat) : bitsOf v n = bitsOf (v % 2 ^ n) n := by
  unfold bitsOf
  refine List.map_congr_left fun i hi => ?_
  have := List.mem_range.1 hi
  rw [Nat.testBit_mod_two_pow, decide_eq_true (by omega), Bool.true_and]
theorem take_code {m : List Bool} (h : uErr m = 0) : m.take (uLen m) = code (uVal m) ∧ uLen m ≤ m.length := by
  have h1 : zrun m ≤ 15 ∧ 2 * zrun m + 1 ≤ m.length := by
    unfold uErr at h
    split at h
    · cases h
    · split at h
      · cases h
      · omega
  have hL : uLen m = 2 * zrun m + 1 := by unfold uLen; rw [if_pos h]
  have hV : uVal m = 2 ^ zrun m + num ((m.drop (zrun m + 1)).take (zrun m)) - 1 := by unfold uVal; rw [if_pos h]
  refine ⟨?_, by omega⟩
  generalize ht : (m.drop (zrun m + 1)).take (zrun m) = t at hV
  have htl : t.length = zrun m := by rw [← ht]; simp; omega
  have hnt := num_lt t
  rw [htl] at hnt
  have hpos : 0 < 2 ^ zrun m := Nat.two_pow_pos _
  have hv1 : uVal m + 1 = 2 ^ zrun m + num t := by omega
  have hh : hlf (uVal m) = zrun m := hlf_of (by omega) (by rw [Nat.pow_succ]; omega)
  rw [code_eq, hh, hv1, bitsOf_mod, Nat.add_mod_left, Nat.mod_eq_of_lt hnt]
  have hb := bitsOf_num t
  rw [htl] at hb
  rw [hb, hL, show 2 * zrun m + 1 = zrun m + (zrun m + 1) by omega, List.take_add]
  have e1 : m.take (zrun m) = List.replicate (zrun m) false := by
    apply List.ext_getElem?
    intro i
    by_cases hi : i < zrun m
    · rw [List.getElem?_take, if_pos hi, zrun_zero m i hi, List.getElem?_replicate, if_pos hi]
    · rw [List.getElem?_take, if_neg hi, List.getElem?_replicate, if_neg hi]
  have e2 : m.drop (zrun m) = true :: m.drop (zrun m + 1) := by
    have hlt : zrun m < m.length := by omega
    rw [List.drop_eq_getElem_cons hlt]
    have := zrun_one m hlt
    rw [List.getElem?_eq_getElem hlt] at this
    simp only [Option.some.injEq] at this
    rw [this]
  rw [e1, e2, List.take_succ_cons, ht]
theorem fold_sVal (n : Nat) : fold (sVal n) = n := by
  unfold sVal fold
  split <;> split <;> omega
theorem bc_skip (x : Nat → Int) (b : Nat) : ∀ (d a : Nat), a + d ≤ 64 → (∀ j, a ≤ j → j < a + d → x j = 0) → bc x (64 - a) a b = bc x (64 - (a + d)) (a + d) b
  | 0, a, _, _ => rfl
  | d + 1, a, h, hx => by
    obtain ⟨k, hk⟩ : ∃ k, 64 - a = k + 1 := ⟨63 - a, by omega⟩
    rw [hk, bc, if_pos (hx a (Nat.le_refl _) (by omega)), show k = 64 - (a + 1) by omega, bc_skip x b d (a + 1) (by omega) (fun j h1 h2 => hx j (by omega) (by omega)), show a + 1 + d = a + (d + 1) by omega]
theorem bc_nil (x : Nat → Int) (b a : Nat) (h : a ≤ 64) (hx : ∀ j, a ≤ j → x j = 0) : bc x (64 - a) a b = [] := by
  rw [bc_skip x b (64 - a) a (by omega) (fun j h1 _ => hx j h1), show a + (64 - a) = 64 by omega]
  rfl
/-- What is read is what would be written. -/
theorem tk_uniq : ∀ (K : Nat) (y : Nat → Int) (a : Nat) (m : List Bool), a ≤ 64 → (∀ j, a ≤ j → y j = 0) → (tk K y a m).1 = 0 →
    (∀ j, j < a → (tk K y a m).2.1 j = y j) ∧ (∀ j, a ≤ j → -4095 ≤ (tk K y a m).2.1 j ∧ (tk K y a m).2.1 j ≤ 4095) ∧ m.take (tk K y a m).2.2 = bc (tk K y a m).2.1 (64 - a) a a ++ uCode 0 ∧ (tk K y a m).2.2 ≤ m.length
  | 0, y, a, m, _, _, h => by simp [tk] at h
  | K + 1, y, a, m, ha, hy, h => by
    rw [tk] at h
    split at h
    · rename_i h0; exact absurd h h0
    · rename_i h0
      have h0' : uErr m = 0 := Classical.not_not.1 h0
      obtain ⟨t1, t2⟩ := take_code h0'
      split at h
      · rename_i h1
        have e : tk (K + 1) y a m = (0, y, uLen m) := by rw [tk, if_neg h0, if_pos h1]
        rw [e]
        refine ⟨fun _ _ => rfl, fun j hj => by simp only; rw [hy j hj]; omega, ?_, t2⟩
        simp only
        rw [bc_nil y a a ha hy, t1, h1, uCode_of (by omega)]
        rfl
      · rename_i h1
        split at h
        · cases h
        · rename_i h2
          split at h
          · rename_i h3; exact absurd h h3
          · rename_i h3
            have h3' : uErr (m.drop (uLen m)) = 0 := Classical.not_not.1 h3
            split at h
            · cases h
            · rename_i h4
              obtain ⟨s1, s2⟩ := take_code h3'
              have hlv : -4095 ≤ sTake (m.drop (uLen m)) ∧ sTake (m.drop (uLen m)) ≤ 4095 := by
                cases hl : lvl (sTake (m.drop (uLen m))) with
                | false => exact absurd (.inr hl) h4
                | true => exact lvl_true hl
              have hnz : sTake (m.drop (uLen m)) ≠ 0 := fun h => h4 (.inl h)
              have hvs : sTake (m.drop (uLen m)) = sVal (uVal (m.drop (uLen m))) := by unfold sTake; rw [if_pos h3']
              have hv := uVal_le m
              obtain ⟨p, hp⟩ : ∃ p, a + uVal m - 1 = p := ⟨_, rfl⟩
              have e : tk (K + 1) y a m = tk (K + 1) y a m := rfl
              conv at e =>
                rhs
                rw [tk, if_neg h0, if_neg h1, if_neg h2, if_neg h3, if_neg h4]
              rw [hp] at h e h2
              obtain ⟨v, hvv⟩ : ∃ v, sTake (m.drop (uLen m)) = v := ⟨_, rfl⟩
              rw [hvv] at h e hlv hnz hvs
              have ih := tk_uniq K (upd y p v) (p + 1) ((m.drop (uLen m)).drop (uLen (m.drop (uLen m)))) (by omega) (fun j hj => by unfold upd; rw [if_neg (by omega)]; exact hy j (by omega)) h
              rw [e]
              obtain ⟨r, hr⟩ : ∃ r, tk K (upd y p v) (p + 1) ((m.drop (uLen m)).drop (uLen (m.drop (uLen m)))) = r := ⟨_, rfl⟩
              rw [hr] at ih ⊢
              obtain ⟨i1, i2, i3, i4⟩ := ih
              simp only
              have hxp : r.2.1 p = v := by rw [i1 p (by omega)]; unfold upd; rw [if_pos rfl]
              have hxz : ∀ j, a ≤ j → j < p → r.2.1 j = 0 := fun j h5 h6 => by rw [i1 j (by omega)]; unfold upd; rw [if_neg (by omega)]; exact hy j h5
              refine ⟨fun j hj => ?_, fun j hj => ?_, ?_, ?_⟩
              · rw [i1 j (by omega)]; unfold upd; rw [if_neg (by omega)]
              · by_cases h5 : j < p
                · rw [hxz j hj h5]; omega
                · by_cases h6 : j = p
                  · rw [h6, hxp]; exact hlv
                  · exact i2 j (by omega)
              · have hbc : bc r.2.1 (64 - a) a a = uCode ((p : Int) - a + 1) ++ (sCode v ++ bc r.2.1 (64 - (p + 1)) (p + 1) (p + 1)) := by
                  rw [bc_skip r.2.1 a (p - a) a (by omega) (fun j h5 h6 => hxz j h5 (by omega)), show a + (p - a) = p by omega]
                  obtain ⟨k, hk⟩ : ∃ k, 64 - p = k + 1 := ⟨63 - p, by omega⟩
                  rw [hk, bc, hxp, if_neg hnz, show k = 64 - (p + 1) by omega]
                have hu : uCode ((p : Int) - a + 1) = code (uVal m) := by
                  rw [uCode_of (by omega)]
                  congr 1
                  omega
                have hs : sCode v = code (uVal (m.drop (uLen m))) := by rw [sCode_of hlv, hvs, fold_sVal]
                rw [hbc, hu, hs, ← t1, ← s1, show uLen m + uLen (m.drop (uLen m)) + r.2.2 = uLen m + (uLen (m.drop (uLen m)) + r.2.2) by omega, List.take_add, List.take_add, i3]
                simp
              · simp only [List.length_drop] at i4 s2
                omega
end
end Go.Proofs.Ytkojnmphgdlmdaa
