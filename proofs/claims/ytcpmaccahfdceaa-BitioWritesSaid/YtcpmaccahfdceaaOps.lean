/- An argument that is a list of calls of Put, opened. -/
import Derived.Test.YtcpmaccahfdceaaWn
import Derived.Test.YtcpmaccahfdceaaRow
namespace Go.Proofs.Ytcpmaccahfdceaa
open Go.ChangeShapes Go.WideShapes Go.ChangeAt Go.RowKit Go.Deep

theorem opsV_eq (l : List (Nat × Int)) : opsV l = l.flatMap fun o => [.int .u32 (o.1 : Int), .int .i64 o.2] := by
  induction l with
  | nil => rfl
  | cons o l ih => simp [opsV, ih]
theorem open_opsR {H : Type} {enc : TypeId × Value → H} {r : Reach} {b0 : Nat} {W : World} {v : Value} {d : DataW H} {ps : List MemPlace}
    (hval : Value.okWide Try.prog W r b0 22 v) (hd : DataW.Trod enc Try.prog W 0 (fun _ => true) true 22 v d ps) :
    ∃ A len cap ops, v = .slice A len cap ∧ List.length ops = len ∧ len ≤ cap ∧ cap ≤ maxLen ∧ Reads W A 2 len (opsV ops) ∧ (∀ o ∈ ops, o.1 < 4294967296) ∧ ∀ o ∈ ops, -9223372036854775808 ≤ o.2 ∧ o.2 ≤ 9223372036854775807 := by
  obtain ⟨a0, len, cap, rfl⟩ := okWide_slice Try.underlying22 hval
  obtain ⟨fuel, hf⟩ := hd
  rcases open_slice_fields Try.underlying22 Try.underlying34 (by kernel_rfl) (by kernel_rfl) hf with hcs | ⟨a, len', cap', hcs, hl, hm, hi⟩
  · simp [Value.cells] at hcs
    obtain ⟨rfl, rfl, rfl⟩ := hcs
    exact ⟨none, 0, 0, [], rfl, rfl, Nat.le_refl _, Nat.zero_le _, Reads.none_, by simp, by simp⟩
  · simp [Value.cells] at hcs
    obtain ⟨rfl, rfl, rfl⟩ := hcs
    obtain ⟨ops, hol, hq⟩ := list_of (α := Nat × Int) (Q := fun i o => W.cell? (a.add (i * 2)) = some (.int .u32 (o.1 : Int)) ∧ W.cell? (a.add (i * 2 + 1)) = some (.int .i64 o.2) ∧ o.1 < 4294967296 ∧ -9223372036854775808 ≤ o.2 ∧ o.2 ≤ 9223372036854775807) len (fun i hlt => by
      obtain ⟨n, hfld⟩ := hi i hlt
      obtain ⟨v0, y0, hc0, ht0⟩ := hfld 0 _ rfl
      obtain ⟨v1, y1, hc1, ht1⟩ := hfld 1 _ rfl
      obtain ⟨x0, e0, _, w0⟩ := DataW.trod_int Try.underlying32 ht0
      obtain ⟨x1, e1, _, w1⟩ := DataW.trod_int Try.underlying3 ht1
      simp at e0 e1
      subst e0 e1
      have b0 : 0 ≤ x0 ∧ x0 ≤ 4294967295 := by simpa [Lit.wf, IntKind.min, IntKind.max, IntKind.signed, IntKind.bits] using w0
      have b1 : -9223372036854775808 ≤ x1 ∧ x1 ≤ 9223372036854775807 := by simpa [Lit.wf, IntKind.min, IntKind.max, IntKind.signed, IntKind.bits] using w1
      exact ⟨(x0.toNat, x1), by rw [show ((x0.toNat : Nat) : Int) = x0 from Int.toNat_of_nonneg b0.1]; exact hc0, hc1, by show x0.toNat < 4294967296; omega, b1.1, b1.2⟩)
    have hmem : ∀ o ∈ ops, o.1 < 4294967296 ∧ -9223372036854775808 ≤ o.2 ∧ o.2 ≤ 9223372036854775807 := fun o ho => by
      obtain ⟨i, hi'⟩ := List.getElem?_of_mem ho
      exact (hq i o hi').2.2
    refine ⟨some a, len, cap, ops, rfl, hol, hl, hm, ?_, fun o ho => (hmem o ho).1, fun o ho => (hmem o ho).2⟩
    rw [opsV_eq]
    refine Reads.of_rows (s := 2) _ (by omega) (fun _ => rfl) ops hol (fun i o ho j u hu => ?_)
    obtain ⟨h0, h1, _⟩ := hq i o ho
    match j, hu with
    | 0, hu => simp at hu; subst hu; exact h0
    | 1, hu => simp at hu; subst hu; exact h1
end Go.Proofs.Ytcpmaccahfdceaa
