/- A new variable, a whole store, a store into a cell, as the walk's own arms: the world behind them is a name of which the blocks are known. Plain lemmas, no condition. -/
import Derived.Test.YtmjjdehicngffaaDoorArr
namespace Go.Proofs.YtmjjdehicngffaaDoor
open Go.RowKit

section
variable {P : Program} {ops : Array Oper} {rest : List Oper} {o : Oper} {a : Act} {w : World} {Q : Exit → Act → World → Prop} {X Y : Operand} {t : TypeId}
/-- 'var x T'. -/
theorem wal (z : Value) (cs : Array Value) (hgd : o.guard = none) (ho : o.op = .alloc t) (hz : (P.info? t).map (·.zero) = some (some z)) (hcs : z.cells = cs)
    (k : ∀ g w', Blk w' g t cs → Only [] w w' → w.heap.size ≤ g → wpList P ops Q rest (a.put o.dst (.pointer (some ⟨g, 0, none⟩))) w') : wpList P ops Q (o :: rest) a w := by
  refine wpList_plain hgd fun K hK => ?_
  cases hi : P.info? t with
  | none => simp [hi] at hz
  | some i =>
    have hz' : i.zero = some z := by simpa [hi] using hz
    have h1 := hK _ _ (k w.heap.size (w.alloc (.cells cs t)) (Blk.new _ _ _) ((Only.refl _ _).alloc _) (Nat.le_refl _))
    subst hcs
    have hzv : (zeroValue t).run P w = .ok z w := by simp [zeroValue, typeInfo, hi, hz']
    unfold Oper.wp execOp
    simp only [ho, Instr.alloc, Sem.run_bind, hzv, Result.andThen_ok, newVar, newRow]
    exact h1
/-- A parameter's own variable. -/
theorem wbx (v : Value) (cs : Array Value) (hgd : o.guard = none) (ho : o.op = .box t X) (hv : a.eval X = v) (hcs : v.cells = cs)
    (k : ∀ g w', Blk w' g t cs → Only [] w w' → w.heap.size ≤ g → wpList P ops Q rest (a.put o.dst (.pointer (some ⟨g, 0, none⟩))) w') : wpList P ops Q (o :: rest) a w := by
  refine wpList_plain hgd fun K hK => ?_
  have h1 := hK _ _ (k w.heap.size (w.alloc (.cells cs t)) (Blk.new _ _ _) ((Only.refl _ _).alloc _) (Nat.le_refl _))
  subst hcs
  unfold Oper.wp execOp
  simp only [ho, Instr.box, hv, newVar, newRow]
  exact h1
/-- A whole array or struct into its block. -/
theorem wsr {g : Nat} {T : TypeId} {cs : Array Value} (cs' : Array Value) (h : Blk w g T cs) (hgd : o.guard = none) (ho : o.op = .store t X Y) (hx : a.eval X = .pointer (some ⟨g, 0, none⟩)) (hy : a.eval Y = .agg cs')
    (hi : (P.info? t).map (·.size) = some cs'.size) (hs : cs.size = cs'.size) (h1 : cs'.all (·.oneCell') = true)
    (k : ∀ w', Blk w' g T cs' → Only [g] w w' → w'.heap.size = w.heap.size → wpList P ops Q rest (a.put o.dst undef) w') : wpList P ops Q (o :: rest) a w :=
  wpList_store_row hgd t X Y ho g cs' hx hy T cs h hi hs h1 (k _ (h.row _) ((Only.refl _ _).setRow (.inl (by simp)) _) (by simp))
end
theorem Blk.set1 {w : World} {g : Nat} {t : TypeId} {cs : Array Value} (h : Blk w g t cs) (i : Nat) (u : Value) : Blk (w.setCell ⟨g, i, none⟩ u) g t (cs.setIfInBounds i u) ∧ Only [g] w (w.setCell ⟨g, i, none⟩ u) :=
  ⟨h.set_ i u, (Only.refl _ _).setCell (.inl (by simp)) u⟩
/-- What was there before, is there behind a store into another block. -/
theorem Blk.apart {w w' : World} {g g' : Nat} {t : TypeId} {cs : Array Value} (h : Blk w g t cs) (ho : Only [g'] w w') (hg : g ≠ g') : Blk w' g t cs := h.only ho (by simpa using hg)
theorem Only.own {w w1 w2 : World} {g : Nat} (h : Only [] w w1) (k : Only [g] w1 w2) (hg : w.heap.size ≤ g) : Only [] w w2 := h.trans k (fun x hx => .inr (by simp at hx; omega))
theorem Only.same {F : List Nat} {w w1 w2 : World} (h : Only F w w1) (k : Only F w1 w2) : Only F w w2 := h.trans k (Fresh.refl _ _)
end Go.Proofs.YtmjjdehicngffaaDoor
