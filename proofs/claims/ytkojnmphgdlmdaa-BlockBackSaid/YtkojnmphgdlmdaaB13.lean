/- Arms for 'min' and for the rest of a slice; the bits of blocks one after the other. -/
import Derived.Test.YtkojnmphgdlmdaaB12
namespace Go.Proofs.Ytkojnmphgdlmdaa
open Go.RowKit bt

section
variable {ops : Array Oper} {rest : List Oper} {o : Oper} {a : Act} {w : World} {Q : Exit → Act → World → Prop} {X Y : Operand}
theorem arm_min {ts : Array TypeId} (x y m : Int) (hm : (if y < x then y else x) = m) (hgd : o.guard = none) (ho : o.op = .call { callee := .builtin .min, args := #[X, Y], argTypes := ts }) (hx : a.eval X = .int .i64 x) (hy : a.eval Y = .int .i64 y)
    (k : wpList Try.prog ops Q rest (a.put o.dst (.int .i64 m)) w) : wpList Try.prog ops Q (o :: rest) a w := by
  refine wpList_plain hgd fun K hK => ?_
  unfold Oper.wp execOp
  simp only [ho, resolve, invoke, builtin, Sem.run_bind, Sem.run_pure, Result.andThen_ok, List.map_toArray, List.map_cons, List.map_nil, hx, hy, run_min_int2, hm]
  exact hK _ _ k
theorem run_rest (w : World) (A : Option Addr) (n c j : Nat) (h1 : j ≤ n) : (Instr.sliceAt 22 (.slice A n c) (some (.int .i64 (j : Int))) none none).run Try.prog w = .ok (.slice (if c = j then A else A.map (·.add (j * 1))) (n - j) (c - j)) w := by
  have hb := run_sliceBound (P := Try.prog) (w := w) .i64 (j : Int) n .sliceB (by omega) (by omega)
  obtain ⟨i, hi, hz⟩ : ∃ i, Try.prog.info? 3 = some i ∧ i.size = 1 := by
    have : (Try.prog.info? 3).map (·.size) = some 1 := by kernel_rfl
    cases h : Try.prog.info? 3 with
    | none => rw [h] at this; cases this
    | some i => rw [h] at this; simp at this; exact ⟨i, rfl, this⟩
  simp [Instr.sliceAt, Instr.slice, run_underlying Try.underlying22, Instr.sliceBounds, sizeOf, typeInfo, hi, hz, hb]
theorem arm_rest {A : Option Addr} {n c j : Nat} (h1 : j ≤ n) (hgd : o.guard = none) (ho : o.op = .slice 22 X (some Y) none none) (hx : a.eval X = .slice A n c) (hy : a.eval Y = .int .i64 (j : Int))
    (k : wpList Try.prog ops Q rest (a.put o.dst (.slice (if c = j then A else A.map (·.add (j * 1))) (n - j) (c - j))) w) : wpList Try.prog ops Q (o :: rest) a w := by
  refine wpList_plain hgd fun K hK => ?_
  unfold Oper.wp execOp
  simp only [ho, Option.map_some, Option.map_none, hx, hy, Sem.run_bind, run_rest w A n c j h1, Result.andThen_ok]
  exact hK _ _ k
end
/-- Block i of a list of numbers. -/
def xb (l : List Int) (i : Nat) : Nat → Int := blockOf (l.drop (min (64 * i) l.length))
/-- The codes of the first k blocks. -/
def wto (l t : List Int) : Nat → List Bool
  | 0 => []
  | k + 1 => wto l t k ++ bOut (xb l k) (t.getD k 0)
theorem wto_le (l t : List Int) : ∀ k, (wto l t k).length ≤ 4000 * k
  | 0 => by simp [wto]
  | k + 1 => by
    have := wto_le l t k
    have := bOut_le (xb l k) (t.getD k 0)
    simp only [wto, List.length_append]
    omega
theorem wto_drop (l t : List Int) {k n : Nat} (h : k < n) : ∃ rest, (wto l t n).drop (wto l t k).length = bOut (xb l k) (t.getD k 0) ++ rest := by
  have hm : ∀ j, ∃ r, wto l t (k + 1 + j) = wto l t (k + 1) ++ r := by
    intro j
    induction j with
    | zero => exact ⟨[], by simp⟩
    | succ j ih =>
      obtain ⟨r, hr⟩ := ih
      exact ⟨r ++ bOut (xb l (k + 1 + j)) (t.getD (k + 1 + j) 0), by rw [← Nat.add_assoc]; simp only [wto] at hr ⊢; rw [hr, List.append_assoc]⟩
  obtain ⟨r, hr⟩ := hm (n - (k + 1))
  rw [show k + 1 + (n - (k + 1)) = n by omega] at hr
  refine ⟨r, ?_⟩
  rw [hr]
  simp only [wto]
  rw [List.append_assoc, List.drop_left]
theorem pErr_case (x : Nat → Int) (f : Int) : pErr x f = 0 ∨ pErr x f = 1 ∨ pErr x f = 2 := by
  unfold pErr
  split
  · split
    · exact .inl rfl
    · exact .inr (.inr rfl)
  · exact .inr (.inl rfl)
end Go.Proofs.Ytkojnmphgdlmdaa
