/- Facts of coded sound that the laws' walks use. -/
import Derived.Test.YtmojlfgfaabegaaA22
import Derived.Test.YtmojlfgfaabegaaA19
namespace Go.Proofs.Ytmojlfgfaabegaa
open bt

theorem coded_n {ls : List (List Int)} {n S : Nat} {p : List Nat} (h : Coded ls n S p) (h4 : ∀ l ∈ ls, l.length ≤ 400) : n ≤ 400 := by
  have h1 := h.le.1
  cases ls with
  | nil => simp at h1
  | cons l m => rw [← h.c_row (l := l) (by simp)]; exact h4 l (by simp)
theorem coded_S {ls : List (List Int)} {n S : Nat} {p : List Nat} (h : Coded ls n S p) : 41 ≤ S ∧ S ≤ 151 := by
  have := h.le
  rw [h.hS]
  unfold szN
  omega
theorem coded_len {ls : List (List Int)} {n S : Nat} {p : List Nat} (h : Coded ls n S p) (hn : n ≤ 400) : p.length ≤ 2000 := by
  have h1 := h.c_drop.2.1
  have h2 := (coded_S h).2
  have h3 : nblk n ≤ 13 := by unfold nblk; omega
  have := Nat.mul_le_mul h3 h2
  omega
theorem coded_zero {ls : List (List Int)} {n S : Nat} {p : List Nat} (h : Coded ls n S p) : EN ls = (p, 0) := by
  unfold EN
  rw [if_pos h.c_pr, h.hn, h.hp]
theorem rw1_all {ls : List (List Int)} (h : ∀ l ∈ ls, l.length ≤ 1099511627776 ∧ ∀ z ∈ l, -32768 ≤ z ∧ z ≤ 32767) : ∀ l ∈ ls.map rw1, l.length ≤ 1099511627776 ∧ ∀ z ∈ l, -32768 ≤ z ∧ z ≤ 32767 := by
  intro l hl
  rw [List.mem_map] at hl
  obtain ⟨m, hm, rfl⟩ := hl
  exact ⟨by rw [rw1_len]; exact (h m hm).1, rw1_rng (h m hm).2⟩
theorem u8_of {x : Int} (w : (Lit.int .u8 x).wf = true) : 0 ≤ x ∧ x ≤ 255 := by
  simpa [Lit.wf, IntKind.min, IntKind.max, IntKind.signed, IntKind.bits] using w
theorem coded_long {ls : List (List Int)} {n S : Nat} {p : List Nat} (h : Coded ls n S p) (hn : 0 < n) : 10 < p.length := by
  have h1 := h.c_drop.2.1
  have h2 := (coded_S h).1
  have h3 : 1 ≤ nblk n := by unfold nblk; omega
  have := Nat.mul_le_mul h3 h2
  omega
theorem xor_ne {x v : Nat} (hv : v ≠ 0) : x ^^^ v ≠ x := fun h => hv (xor_l (c := x) (by rw [h, Nat.xor_zero]))
theorem xor_lt {x v : Nat} (hx : x < 256) (hv : v < 256) : x ^^^ v < 256 := Nat.xor_lt_two_pow (n := 8) hx hv
theorem bytesV_set (p : List Nat) (i y : Nat) : (bytesV p).set i (.int .u8 (y : Int)) = bytesV (p.set i y) := by
  unfold bytesV
  rw [List.map_set]
theorem dmg_get {l : List Int} {q i : Nat} {x y : Int} (hx : (rw1 l)[i]? = some x) (hy : (dmg q l)[i]? = some y) : y = if i / 32 = q then 0 else x := by
  have hi : i < l.length := by rw [← rw1_len]; exact (List.getElem?_eq_some_iff.1 hx).1
  unfold dmg at hy
  rw [List.getElem?_map, List.getElem?_range hi, Option.map_some, List.getD_eq_getElem?_getD, hx] at hy
  injection hy with hy
  exact hy.symm
end Go.Proofs.Ytmojlfgfaabegaa
