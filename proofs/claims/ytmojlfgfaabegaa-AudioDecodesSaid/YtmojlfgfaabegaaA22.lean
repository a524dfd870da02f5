/- Plain laws of coded sound: a changed byte silences its block; missing bytes cost only blocks that are not complete. -/
import Derived.Test.YtmojlfgfaabegaaA21
namespace Go.Proofs.Ytmojlfgfaabegaa
open bt

theorem sub_get {p : List Nat} {S j : Nat} (h : (j + 1) * S ≤ p.length - 10) (i : Nat) : (sub p S j)[i]? = if i < S then p[10 + (j * S + i)]? else none := by
  have h1 : (j + 1) * S = j * S + S := Nat.succ_mul _ _
  unfold sub
  rw [Nat.min_eq_left h, Nat.min_eq_left (by omega), List.getElem?_drop, List.getElem?_take, List.getElem?_drop]
  by_cases hi : i < S
  · rw [if_pos (by omega), if_pos hi]
  · rw [if_neg (by omega), if_neg hi]
theorem blk_le {K k S : Nat} (hk : k < K) : (k + 1) * S ≤ K * S := Nat.mul_le_mul_right _ hk
theorem sub_set_ne {p : List Nat} {S j k y : Nat} (h : (j + 1) * S ≤ p.length - 10) (hne : j ≠ k / S) : sub (p.set (10 + k) y) S j = sub p S j := by
  apply List.ext_getElem?
  intro i
  rw [sub_get (by rw [List.length_set]; exact h), sub_get h]
  by_cases hi : i < S
  · rw [if_pos hi, if_pos hi, List.getElem?_set_ne]
    intro he
    have hk : k = j * S + i := by omega
    have h1 : (j + 1) * S = j * S + S := Nat.succ_mul _ _
    exact hne (Nat.div_eq_of_lt_le (by omega) (by omega)).symm
  · rw [if_neg hi, if_neg hi]
theorem sub_set_eq {p : List Nat} {S k y : Nat} (hS : 0 < S) (h : (k / S + 1) * S ≤ p.length - 10) : sub (p.set (10 + k) y) S (k / S) = (sub p S (k / S)).set (k % S) y := by
  have hm : k % S < S := Nat.mod_lt _ hS
  have hd : k / S * S + k % S = k := Nat.div_add_mod' k S
  have h1 : (k / S + 1) * S = k / S * S + S := Nat.succ_mul _ _
  have hl : k % S < (sub p S (k / S)).length := by
    rcases Nat.lt_or_ge (k % S) (sub p S (k / S)).length with hh | hh
    · exact hh
    · have := List.getElem?_eq_none hh
      rw [sub_get h, if_pos hm, List.getElem?_eq_getElem (by omega)] at this
      cases this
  apply List.ext_getElem?
  intro i
  have e1 := List.getElem?_set (l := sub p S (k / S)) (i := k % S) (j := i) (a := y)
  rw [e1, sub_get h]
  clear e1
  rw [sub_get (by rw [List.length_set]; exact h)]
  by_cases hi : i < S
  · rw [if_pos hi, if_pos hi, List.getElem?_set]
    by_cases he : k % S = i
    · rw [if_pos (by omega), if_pos he, if_pos (by omega), if_pos (by omega)]
    · rw [if_neg (by omega), if_neg he]
  · rw [if_neg hi, if_neg hi, if_neg (by omega)]
/-- A decoded channel, block q silent. -/
def dmg (q : Nat) (l : List Int) : List Int := (List.range l.length).map fun i => if i / 32 = q then 0 else (rw1 l).getD i 0
theorem dmg_len (q : Nat) (l : List Int) : (dmg q l).length = l.length := by simp [dmg]
theorem szN_pos (ch : Nat) : 0 < szN ch := by unfold szN; omega
section
variable {ls : List (List Int)} {n S : Nat} {p : List Nat}
theorem Coded.silent (h : Coded ls n S p) (h8 : ∀ x ∈ p, x < 256) {k y : Nat} (hk : k < nblk n * S) (hy : y < 256) (hne : y ≠ p.getD (10 + k) 0) :
    k / S < nblk n ∧ okB (p.set (10 + k) y) ls.length n S (k / S) = false := by
  have hS : 0 < S := by rw [h.hS]; exact szN_pos _
  have hq : k / S < nblk n := Nat.div_lt_of_lt_mul (by rw [Nat.mul_comm]; exact hk)
  obtain ⟨_, hpl, _⟩ := h.c_drop
  have hle : (k / S + 1) * S ≤ p.length - 10 := by have := blk_le (S := S) hq; omega
  have hm : k % S < S := Nat.mod_lt _ hS
  have hd : k / S * S + k % S = k := Nat.div_add_mod' k S
  refine ⟨hq, ?_⟩
  cases hok : okB (p.set (10 + k) y) ls.length n S (k / S) with
  | false => rfl
  | true =>
    exfalso
    have h1 := TB_chk (okB_true.1 hok).1
    rw [sub_set_eq hS hle] at h1
    have h2 : chk (sub p S (k / S)) := TB_chk (by rw [h.c_tb hq])
    have hl : (sub p S (k / S)).length = S := by rw [h.c_sub hq, h.plen hq]
    refine chk_bad (q := sub p S (k / S)) (i := k % S) (fun x hx => h8 x (List.mem_of_mem_drop (List.mem_of_mem_take (List.mem_of_mem_drop hx)))) (by omega) ?_ hy ?_ h2 h1
    · rw [hl, h.hS]; unfold szN; omega
    · rw [List.getD_eq_getElem?_getD, sub_get hle, if_pos hm, hd, ← List.getD_eq_getElem?_getD]
      exact hne
theorem set_take {p : List Nat} {k y : Nat} : (p.set (10 + k) y).take 10 = p.take 10 := List.take_set_of_le (by omega)
/-- A changed byte silences its block, and it alone. -/
theorem Coded.damage (h : Coded ls n S p) (h8 : ∀ x ∈ p, x < 256) {k y : Nat} (hk : k < nblk n * S) (hy : y < 256) (hne : y ≠ p.getD (10 + k) 0) :
    DE (p.set (10 + k) y) = (ls.map (dmg (k / S)), [((k / S : Nat) : Int)], 0) := by
  obtain ⟨hq, hbad⟩ := h.silent h8 hk hy hne
  obtain ⟨_, hpl, _⟩ := h.c_drop
  have hsame : ∀ j, j < nblk n → j ≠ k / S → sub (p.set (10 + k) y) S j = sub p S j := fun j hj hne' => sub_set_ne (by have := blk_le (S := S) hj; omega) hne'
  rw [h.de set_take (by rw [List.length_set]; omega) (by rw [List.length_set]; omega), badTo_one (q := k / S) _ (fun j hj hne' => by rw [(piece_congr (hsame j hj hne')).1]; exact h.c_ok hj) (fun _ => hbad), if_pos hq]
  congr 1
  apply List.ext_getElem?
  intro c
  rw [List.getElem?_map, List.getElem?_map]
  by_cases hc : c < ls.length
  · have hg : ls[c]? = some ls[c] := List.getElem?_eq_getElem hc
    rw [List.getElem?_range hc, hg, Option.map_some, Option.map_some]
    congr 1
    generalize hl : ls[c] = l at hg
    have hln := h.c_row (List.mem_of_getElem? hg)
    have hlen := rowTo_len (p := p.set (10 + k) y) (S := S) hc (nblk n) (nblk_bd n)
    have hb := nblk_bd n
    apply List.ext_getElem?
    intro i
    by_cases hi : i < n
    · obtain ⟨h1, h2⟩ := nblk_lt hi
      rw [rowTo_get hc _ i (nblk_bd n) h2 hi]
      unfold dmg
      rw [List.getElem?_map, List.getElem?_range (by omega), Option.map_some]
      by_cases hik : i / 32 = k / S
      · rw [if_pos hik, hik]
        unfold piece
        rw [hbad, if_neg (by simp), List.getElem?_replicate, if_pos (by unfold want; omega)]
      · have hpc := (piece_congr (ch := ls.length) (n := n) (hsame _ h1 hik)).2 c
        have hrw := rowTo_get (p := p) (S := S) hc _ i (nblk_bd n) h2 hi
        rw [if_neg hik, hpc, ← hrw, h.c_rowTo hg, List.getD_eq_getElem?_getD, List.getElem?_eq_getElem (by rw [rw1_len]; omega)]
        rfl
    · rw [List.getElem?_eq_none (by omega), List.getElem?_eq_none (by rw [dmg_len]; omega)]
  · rw [List.getElem?_eq_none (by simp; omega), List.getElem?_eq_none (by omega)]
    rfl
/-- Missing bytes cost only the blocks that are not complete. -/
theorem Coded.short (h : Coded ls n S p) {m : Nat} (h10 : 10 ≤ m) (hm : m ≤ p.length) :
    (DE (p.take m)).2.2 = 0 ∧ (DE (p.take m)).1.length = ls.length ∧ ∀ (c : Nat) (l : List Int), ls[c]? = some l → ∃ r, (DE (p.take m)).1[c]? = some r ∧ r.length = n ∧ ∀ i, i < n → i / 32 < (m - 10) / S → r[i]? = (rw1 l)[i]? := by
  have htl : (p.take m).length = m := by rw [List.length_take]; omega
  have hde := h.de (q := p.take m) (by rw [List.take_take, Nat.min_eq_left h10]) (by omega) (by omega)
  obtain ⟨_, hpl, _⟩ := h.c_drop
  rw [hde]
  refine ⟨rfl, by simp, fun c l hl => ?_⟩
  have hc : c < ls.length := (List.getElem?_eq_some_iff.1 hl).1
  have hlen := rowTo_len (p := p.take m) (S := S) hc (nblk n) (nblk_bd n)
  have hb := nblk_bd n
  refine ⟨rowTo (p.take m) ls.length n S c (nblk n), by simp [hc], by rw [hlen]; unfold nblk; omega, fun i hi hik => ?_⟩
  obtain ⟨h1, h2⟩ := nblk_lt hi
  have hle : (i / 32 + 1) * S ≤ m - 10 := Nat.le_trans (Nat.mul_le_mul_right _ hik) (Nat.div_mul_le_self _ _)
  have hsame : sub (p.take m) S (i / 32) = sub p S (i / 32) := by
    apply List.ext_getElem?
    intro j
    rw [sub_get (by omega), sub_get (by omega)]
    by_cases hj : j < S
    · have h3 : (i / 32 + 1) * S = i / 32 * S + S := Nat.succ_mul _ _
      rw [if_pos hj, if_pos hj, List.getElem?_take, if_pos (by omega)]
    · rw [if_neg hj, if_neg hj]
  rw [rowTo_get hc _ i (nblk_bd n) h2 hi, (piece_congr hsame).2, ← rowTo_get hc _ i (nblk_bd n) h2 hi, h.c_rowTo hl]
end
end Go.Proofs.Ytmojlfgfaabegaa
