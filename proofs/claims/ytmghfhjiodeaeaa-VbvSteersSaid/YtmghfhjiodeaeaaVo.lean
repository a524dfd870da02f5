/- A sequence header that came in, opened. -/
import Derived.Test.YtmghfhjiodeaeaaV2
import Derived.Test.YtmghfhjiodeaeaaRow
namespace Go.Proofs.Ytmghfhjiodeaeaa
open Go.ChangeShapes Go.WideShapes Go.ChangeAt Go.RowKit

section
variable {P : Program} {w : World} {r : Reach} {b : Nat} {u : TypeId} {v : Value}
theorem cell_int {k : IntKind} (hu : P.underlying u = some (.int k)) (h : Cell.okWide P w r b u v) : ∃ n, v = .int k n ∧ k.has n := by
  simp only [Cell.okWide, hu] at h
  cases v <;> simp_all [Cell.ok]
theorem cell_bool (hu : P.underlying u = some .bool) (h : Cell.okWide P w r b u v) : ∃ x, v = .bool x := by
  simp only [Cell.okWide, hu] at h
  cases v <;> simp_all [Cell.ok]
end
theorem has_i64 {n : Int} (h : IntKind.i64.has n) : Big n := by
  simpa [IntKind.has, IntKind.min, IntKind.max, IntKind.signed, IntKind.bits, Big] using h
theorem has_u8 {n : Int} (h : IntKind.u8.has n) : 0 ≤ n ∧ n ≤ 255 := by
  simpa [IntKind.has, IntKind.min, IntKind.max, IntKind.signed, IntKind.bits] using h
def ts26 : List TypeId := [3, 3, 2, 2, 4, 3, 3] ++ List.replicate 128 5
theorem cellTypes26 : Try.prog.cellTypes Try.prog.depth 26 = some ts26 := by kernel_rfl
theorem cellsOf26 : Try.prog.cellsOf 26 = 135 := by kernel_rfl
theorem open_seq {w : World} {r : Reach} {b0 : Nat} {v : Value} (h : Value.okWide Try.prog w r b0 26 v) : ∃ s : Sq, v = .agg (sqA s) ∧ SqI s ∧ U8 s.a ∧ U8 s.b := by
  simp only [Value.okWide, Try.underlying26] at h
  obtain ⟨cs, rfl, hsz, ts, hts, _, hcell⟩ := h
  rw [cellTypes26] at hts
  obtain rfl := Option.some.inj hts
  rw [cellsOf26] at hsz
  have hlen : ts26.length = 135 := by simp [ts26]
  have at_ : ∀ i, i < 135 → ∃ x u, cs[i]? = some x ∧ ts26[i]? = some u ∧ Cell.okWide Try.prog w r b0 u x := by
    intro i hi
    have h1 : cs[i]? = some cs[i] := Array.getElem?_eq_getElem (by omega)
    obtain ⟨u, hu, hc⟩ := hcell i _ h1
    rw [hlen, Nat.mod_eq_of_lt hi] at hu
    exact ⟨_, u, h1, hu, hc⟩
  have i64 : ∀ i, i < 135 → (ts26[i]? = some 3 ∨ ts26[i]? = some 2) → ∃ n, cs[i]? = some (.int .i64 n) ∧ Big n := by
    intro i hi ht
    obtain ⟨x, u, hx, hu, hc⟩ := at_ i hi
    rcases ht with ht | ht
    · rw [ht] at hu; obtain rfl := Option.some.inj hu
      obtain ⟨n, rfl, hn⟩ := cell_int Try.underlying3 hc
      exact ⟨n, hx, has_i64 hn⟩
    · rw [ht] at hu; obtain rfl := Option.some.inj hu
      obtain ⟨n, rfl, hn⟩ := cell_int Try.underlying2 hc
      exact ⟨n, hx, has_i64 hn⟩
  have u8 : ∀ i, 7 ≤ i → i < 135 → ∃ n, cs[i]? = some (.int .u8 n) ∧ 0 ≤ n ∧ n ≤ 255 := by
    intro i h7 hi
    obtain ⟨x, u, hx, hu, hc⟩ := at_ i hi
    have ht : ts26[i]? = some 5 := by
      unfold ts26
      rw [List.getElem?_append_right (by simpa using h7), List.getElem?_replicate, if_pos (by simp; omega)]
    rw [ht] at hu; obtain rfl := Option.some.inj hu
    obtain ⟨n, rfl, hn⟩ := cell_int Try.underlying5 hc
    exact ⟨n, hx, has_u8 hn⟩
  obtain ⟨n0, c0, b0'⟩ := i64 0 (by omega) (.inl rfl)
  obtain ⟨n1, c1, b1⟩ := i64 1 (by omega) (.inl rfl)
  obtain ⟨n2, c2, b2⟩ := i64 2 (by omega) (.inr rfl)
  obtain ⟨n3, c3, b3⟩ := i64 3 (by omega) (.inr rfl)
  obtain ⟨n5, c5, b5⟩ := i64 5 (by omega) (.inl rfl)
  obtain ⟨n6, c6, b6⟩ := i64 6 (by omega) (.inl rfl)
  obtain ⟨x4, u4, hx4, hu4, hc4⟩ := at_ 4 (by omega)
  have ht4 : ts26[4]? = some 4 := rfl
  rw [ht4] at hu4; obtain rfl := Option.some.inj hu4
  obtain ⟨n4, rfl⟩ := cell_bool Try.underlying4 hc4
  have ea : ∀ j, j < 128 → cs[7 + j]? = some (.int .u8 (intOf (cs.getD (7 + j) undef))) ∧ 0 ≤ intOf (cs.getD (7 + j) undef) ∧ intOf (cs.getD (7 + j) undef) ≤ 255 := by
    intro j hj
    obtain ⟨n, hn, hb⟩ := u8 (7 + j) (by omega) (by omega)
    have e : cs.getD (7 + j) undef = .int .u8 n := by simp [hn]
    rw [e]; exact ⟨hn, hb⟩
  refine ⟨⟨n0, n1, n2, n3, n4, n5, n6, fun j => intOf (cs.getD (7 + j) undef), fun j => intOf (cs.getD (7 + (64 + j)) undef)⟩, congrArg Value.agg ?_, ⟨b0', b1, b2, b3, b5, b6⟩, fun j hj => (ea j (by omega)).2, fun j hj => (ea (64 + j) (by omega)).2⟩
  apply Array.ext_getElem?
  intro i
  by_cases hi : i < 135
  · by_cases h7 : i < 7
    · have : i = 0 ∨ i = 1 ∨ i = 2 ∨ i = 3 ∨ i = 4 ∨ i = 5 ∨ i = 6 := by omega
      rcases this with rfl | rfl | rfl | rfl | rfl | rfl | rfl
      · rw [c0]; simp [sqA, sqL, sqH]
      · rw [c1]; simp [sqA, sqL, sqH]
      · rw [c2]; simp [sqA, sqL, sqH]
      · rw [c3]; simp [sqA, sqL, sqH]
      · rw [hx4]; simp [sqA, sqL, sqH]
      · rw [c5]; simp [sqA, sqL, sqH]
      · rw [c6]; simp [sqA, sqL, sqH]
    · obtain ⟨j, rfl⟩ : ∃ j, i = 7 + j := ⟨i - 7, by omega⟩
      rw [(ea j (by omega)).1]
      simp only [sqA, List.getElem?_toArray, sqL]
      rw [List.getElem?_append_right (by simp [sqH])]
      by_cases hj : j < 64
      · rw [List.getElem?_append_left (by rw [rowL_length]; simp [sqH]; omega)]
        simp [sqH, rowL, hj]
      · obtain ⟨k, rfl⟩ : ∃ k, j = 64 + k := ⟨j - 64, by omega⟩
        rw [List.getElem?_append_right (by rw [rowL_length]; simp [sqH]), rowL_length]
        have e : 7 + (64 + k) - (sqH ⟨n0, n1, n2, n3, n4, n5, n6, fun j => intOf (cs.getD (7 + j) undef), fun j => intOf (cs.getD (7 + (64 + j)) undef)⟩).length - 64 = k := by simp [sqH]
        rw [e]
        simp [rowL, show k < 64 by omega]
  · rw [Array.getElem?_eq_none (by omega), Array.getElem?_eq_none (by rw [sqA_size]; omega)]
end Go.Proofs.Ytmghfhjiodeaeaa
