/- The walk's arms at arrays of 64 integers. -/
import Derived.Test.YtmjjdehicngffaaDoorT1
import Derived.Test.YtmjjdehicngffaaDoorHeap
namespace Go.Proofs.YtmjjdehicngffaaDoor
open Go.RowKit

theorem zero64 : (Tryd.prog.info? 23).map (·.zero) = some (some (.agg (arr .i64 64 fun _ => 0))) := by kernel_rfl
section
variable {ops : Array Oper} {rest : List Oper} {o : Oper} {a : Act} {w : World} {Q : Exit → Act → World → Prop} {X Y : Operand}
theorem al64 (hgd : o.guard = none) (ho : o.op = .alloc 23) (k : ∀ g w', Blk w' g 23 (arr .i64 64 fun _ => 0) → Only [] w w' → w.heap.size ≤ g → wpList Tryd.prog ops Q rest (a.put o.dst (.pointer (some ⟨g, 0, none⟩))) w') : wpList Tryd.prog ops Q (o :: rest) a w :=
  wal _ _ hgd ho zero64 rfl k
theorem bx64 {x : Nat → Int} (hgd : o.guard = none) (ho : o.op = .box 23 X) (hv : a.eval X = .agg (arr .i64 64 x)) (k : ∀ g w', Blk w' g 23 (arr .i64 64 x) → Only [] w w' → w.heap.size ≤ g → wpList Tryd.prog ops Q rest (a.put o.dst (.pointer (some ⟨g, 0, none⟩))) w') : wpList Tryd.prog ops Q (o :: rest) a w :=
  wbx _ _ hgd ho hv rfl k
theorem sr64 {g : Nat} {x y : Nat → Int} (h : Blk w g 23 (arr .i64 64 x)) (hgd : o.guard = none) (ho : o.op = .store 23 X Y) (hx : a.eval X = .pointer (some ⟨g, 0, none⟩)) (hy : a.eval Y = .agg (arr .i64 64 y))
    (k : ∀ w', Blk w' g 23 (arr .i64 64 y) → Only [g] w w' → w'.heap.size = w.heap.size → wpList Tryd.prog ops Q rest (a.put o.dst undef) w') : wpList Tryd.prog ops Q (o :: rest) a w :=
  wsr _ h hgd ho hx hy (info_of_arr _) (by rw [arr_size, arr_size]) arr_one k
end
end Go.Proofs.YtmjjdehicngffaaDoor
