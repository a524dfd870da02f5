/- Facts of coded sound that the laws' walks use. -/
import Derived.Test.YtmojlfgfaabegaaA22
import Derived.Test.YtmojlfgfaabegaaA19
namespace Go.Proofs.Ytmojlfgfaabegaa
open bt

theorem coded_n {ls : List (List Int)} {n S : Nat} {p : List Nat} (h : Coded ls n S p) (h4 : ∀ l ∈ ls, l.length ≤ 400) : n ≤ 400 := by
  have h1 := h.le.1
  cases ls with
  | nil => simp at h1
  | cons l m => rw [← h.c_row (l := l) (by simp)]; exact h4 l (by simp)
theorem coded_S {ls : List (List Int)} {n S : Nat} {p : List Nat} (h : Coded ls n S p) : 41 ≤ S ∧ S ≤ 151 := by
  have := h.le
  rw [h.hS]
  unfold szN
  omega
theorem coded_len {ls : List (List Int)} {n S : Nat} {p : List Nat} (h : Coded ls n S p) (hn : n ≤ 400) : p.length ≤ 2000 := by
  have h1 := h.c_drop.2.1
  have h2 := (coded_S h).2
  have h3 : nblk n ≤ 13 := by unfold nblk; omega
  have := Nat.mul_le_mul h3 h2
  omega
theorem coded_zero {ls : List (List Int)} {n S : Nat} {p : List Nat} (h : Coded ls n S p) : EN ls = (p, 0) := by
  unfold EN
  rw [if_pos h.c_pr, h.hn, h.hp]
theorem rw1_all {ls : List (List Int)} (h : ∀ l ∈ ls, l.length ≤ 1099511627776 ∧ ∀ z ∈ l, -32768 ≤ z ∧ z ≤ 32767) : ∀ l ∈ ls.map rw1, l.length ≤ 1099511627776 ∧ ∀ z ∈ l, -32768 ≤ z ∧ z ≤ 32767 := by
  intro l hl
  rw [List.mem_map] at hl
  obtain ⟨m, hm, rfl⟩ := hl
  exact ⟨by rw [rw1_len]; exact (h m hm).1, rw1_rng (h m hm).2⟩
end Go.Proofs.Ytmojlfgfaabegaa
