/- Access units: their cells; a list of them that came in, opened; the laws' helper 'given'. -/
import Derived.Test.YtmghfhjiodeaeaaRegM
import Derived.Test.YtmghfhjiodeaeaaV5
import Derived.Test.YtmghfhjiodeaeaaRow
import Derived.Great.BuildSlice
import Derived.OwnWalk
namespace Go.Proofs.Ytmghfhjiodeaeaa
open Go.ChangeShapes Go.WideShapes Go.ChangeAt Go.RowKit Go.Deep

structure Un where
  a : Int
  b : Int
  c : Int
  d : Int
def u4 (x : Un) : List Value := [.int .i64 x.a, .int .i64 x.b, .int .i64 x.c, .int .i64 x.d]
def uV (l : List Un) : List Value := l.flatMap u4
structure UnI (x : Un) : Prop where
  a : Big x.a
  b : Big x.b
  c : Big x.c
  d : Big x.d
theorem u4_length (x : Un) : (u4 x).length = 4 := rfl
theorem uV_length (l : List Un) : (uV l).length = l.length * 4 := flatMap_len u4 4 u4_length l
theorem uV_append (l m : List Un) : uV (l ++ m) = uV l ++ uV m := by simp [uV]
theorem uV_one (l : List Un) : ∀ u ∈ uV l, u.oneCell' = true := by
  intro u hu
  simp only [uV, List.mem_flatMap] at hu
  obtain ⟨x, _, hx⟩ := hu
  simp only [u4, List.mem_cons, List.not_mem_nil, or_false] at hx
  rcases hx with rfl | rfl | rfl | rfl <;> rfl
theorem uV_get {l : List Un} {i : Nat} {x : Un} (h : l[i]? = some x) : (uV l)[i * 4]? = some (.int .i64 x.a) ∧ (uV l)[i * 4 + 1]? = some (.int .i64 x.b) ∧ (uV l)[i * 4 + 2]? = some (.int .i64 x.c) ∧ (uV l)[i * 4 + 3]? = some (.int .i64 x.d) := by
  have g : ∀ j, j < 4 → (uV l)[i * 4 + j]? = (u4 x)[j]? := by
    intro j hj
    unfold uV
    rw [flatMap_get u4 4 (by omega) u4_length, show (i * 4 + j) / 4 = i by omega, show (i * 4 + j) % 4 = j by omega, h]
    rfl
  exact ⟨g 0 (by omega), g 1 (by omega), g 2 (by omega), g 3 (by omega)⟩
/-- Unit number i, in memory. -/
theorem Reads.un {w : World} {A : Option Addr} {n : Nat} {l : List Un} {i : Nat} {x : Un} (h : Reads w A 4 n (uV l)) (hl : l.length = n) (hi : l[i]? = some x) :
    ∃ b off, A = some ⟨b, off, none⟩ ∧ w.cell? ⟨b, off + i * 4, none⟩ = some (.int .i64 x.a) ∧ w.cell? ⟨b, off + i * 4 + 1, none⟩ = some (.int .i64 x.b) ∧ w.cell? ⟨b, off + i * 4 + 2, none⟩ = some (.int .i64 x.c) ∧ w.cell? ⟨b, off + i * 4 + 3, none⟩ = some (.int .i64 x.d) := by
  have hlt : i < l.length := (List.getElem?_eq_some_iff.1 hi).1
  obtain ⟨b, off, rfl, hc⟩ := h.plain (by omega) (by omega)
  obtain ⟨h0, h1, h2, h3⟩ := uV_get hi
  exact ⟨b, off, rfl, hc _ _ h0, hc _ _ h1, hc _ _ h2, hc _ _ h3⟩
theorem open_unitsR {H : Type} {enc : TypeId × Value → H} {r : Reach} {b0 : Nat} {W : World} {v : Value} {d : DataW H} {ps : List MemPlace}
    (hval : Value.okWide Try.prog W r b0 32 v) (hd : DataW.Trod enc Try.prog W 0 (fun _ => true) true 32 v d ps) :
    ∃ A len cap us, v = .slice A len cap ∧ List.length us = len ∧ len ≤ cap ∧ cap ≤ maxLen ∧ Reads W A 4 len (uV us) ∧ ∀ x ∈ us, UnI x := by
  obtain ⟨a0, len, cap, rfl⟩ := okWide_slice Try.underlying32 hval
  obtain ⟨fuel, hf⟩ := hd
  rcases open_slice_fields Try.underlying32 Try.underlying68 (by kernel_rfl) (by kernel_rfl) hf with hcs | ⟨a, len', cap', hcs, hl, hm, hi⟩
  · simp [Value.cells] at hcs
    obtain ⟨rfl, rfl, rfl⟩ := hcs
    exact ⟨none, 0, 0, [], rfl, rfl, Nat.le_refl _, Nat.zero_le _, Reads.none_, by simp⟩
  · simp [Value.cells] at hcs
    obtain ⟨rfl, rfl, rfl⟩ := hcs
    obtain ⟨us, hol, hq⟩ := list_of (α := Un) (Q := fun i x => W.cell? (a.add (i * 4)) = some (.int .i64 x.a) ∧ W.cell? (a.add (i * 4 + 1)) = some (.int .i64 x.b) ∧ W.cell? (a.add (i * 4 + 2)) = some (.int .i64 x.c) ∧ W.cell? (a.add (i * 4 + 3)) = some (.int .i64 x.d) ∧ UnI x) len (fun i hlt => by
      obtain ⟨n, hfld⟩ := hi i hlt
      obtain ⟨v0, y0, hc0, ht0⟩ := hfld 0 _ rfl
      obtain ⟨v1, y1, hc1, ht1⟩ := hfld 1 _ rfl
      obtain ⟨v2, y2, hc2, ht2⟩ := hfld 2 _ rfl
      obtain ⟨v3, y3, hc3, ht3⟩ := hfld 3 _ rfl
      obtain ⟨x0, e0, _, w0⟩ := DataW.trod_int Try.underlying3 ht0
      obtain ⟨x1, e1, _, w1⟩ := DataW.trod_int Try.underlying3 ht1
      obtain ⟨x2, e2, _, w2⟩ := DataW.trod_int Try.underlying2 ht2
      obtain ⟨x3, e3, _, w3⟩ := DataW.trod_int Try.underlying3 ht3
      simp at e0 e1 e2 e3
      subst e0 e1 e2 e3
      exact ⟨⟨x0, x1, x2, x3⟩, hc0, hc1, hc2, hc3, ⟨i64_of w0, i64_of w1, i64_of w2, i64_of w3⟩⟩)
    refine ⟨some a, len, cap, us, rfl, hol, hl, hm, ?_, fun x hx => ?_⟩
    · refine Reads.of_rows (s := 4) u4 (by omega) (fun _ => rfl) us hol (fun i o ho j u hu => ?_)
      obtain ⟨h0, h1, h2, h3, _⟩ := hq i o ho
      match j, hu with
      | 0, hu => simp [u4] at hu; subst hu; exact h0
      | 1, hu => simp [u4] at hu; subst hu; exact h1
      | 2, hu => simp [u4] at hu; subst hu; exact h2
      | 3, hu => simp [u4] at hu; subst hu; exact h3
    · obtain ⟨i, hi'⟩ := List.getElem?_of_mem hx
      exact (hq i x hi').2.2.2.2
end Go.Proofs.Ytmghfhjiodeaeaa
