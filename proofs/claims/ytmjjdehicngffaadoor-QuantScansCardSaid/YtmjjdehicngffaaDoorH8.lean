/- The walk's arms at arrays of 64 bytes. -/
import Derived.Test.YtmjjdehicngffaaDoorT6
import Derived.Test.YtmjjdehicngffaaDoorH64
namespace Go.Proofs.YtmjjdehicngffaaDoor
open Go.RowKit

theorem zero8 : (Tryd.prog.info? 28).map (·.zero) = some (some (.agg (arr .u8 64 fun _ => 0))) := by kernel_rfl
theorem info_arr8 : (Tryd.prog.info? 28).map (·.size) = some 64 := by kernel_rfl
theorem info_of_arr8 (x : Nat → Int) : (Tryd.prog.info? 28).map (·.size) = some (arr .u8 64 x).size := by rw [arr_size]; exact info_arr8
theorem size_u8 (w : World) : (sizeOf 5).run Tryd.prog w = .ok 1 w := by kernel_rfl
theorem idxB (x : Nat → Int) (k : Nat) (hk : k < 64) (w : World) : (Instr.index 28 (.agg (arr .u8 64 x)) (.int .i64 (k : Int))).run Tryd.prog w = .ok (.int .u8 (x k)) w :=
  run_index_arr w _ _ _ _ _ Tryd.underlying28 Tryd.underlying5 size_u8 _ _ hk
section
variable {ops : Array Oper} {rest : List Oper} {o : Oper} {a : Act} {w : World} {Q : Exit → Act → World → Prop} {X Y : Operand}
theorem al8 (hgd : o.guard = none) (ho : o.op = .alloc 28) (k : ∀ g w', Blk w' g 28 (arr .u8 64 fun _ => 0) → Only [] w w' → w.heap.size ≤ g → wpList Tryd.prog ops Q rest (a.put o.dst (.pointer (some ⟨g, 0, none⟩))) w') : wpList Tryd.prog ops Q (o :: rest) a w :=
  wal _ _ hgd ho zero8 rfl k
theorem bx8 {x : Nat → Int} (hgd : o.guard = none) (ho : o.op = .box 28 X) (hv : a.eval X = .agg (arr .u8 64 x)) (k : ∀ g w', Blk w' g 28 (arr .u8 64 x) → Only [] w w' → w.heap.size ≤ g → wpList Tryd.prog ops Q rest (a.put o.dst (.pointer (some ⟨g, 0, none⟩))) w') : wpList Tryd.prog ops Q (o :: rest) a w :=
  wbx _ _ hgd ho hv rfl k
theorem sr8 {g : Nat} {x y : Nat → Int} (h : Blk w g 28 (arr .u8 64 x)) (hgd : o.guard = none) (ho : o.op = .store 28 X Y) (hx : a.eval X = .pointer (some ⟨g, 0, none⟩)) (hy : a.eval Y = .agg (arr .u8 64 y))
    (k : ∀ w', Blk w' g 28 (arr .u8 64 y) → Only [g] w w' → w'.heap.size = w.heap.size → wpList Tryd.prog ops Q rest (a.put o.dst undef) w') : wpList Tryd.prog ops Q (o :: rest) a w :=
  wsr _ h hgd ho hx hy (info_of_arr8 _) (by rw [arr_size, arr_size]) arr_one k
theorem ld8 {g : Nat} {x : Nat → Int} (h : Blk w g 28 (arr .u8 64 x)) (hgd : o.guard = none) (ho : o.op = .load 28 X) (hx : a.eval X = .pointer (some ⟨g, 0, none⟩))
    (k : wpList Tryd.prog ops Q rest (a.put o.dst (.agg (arr .u8 64 x))) w) : wpList Tryd.prog ops Q (o :: rest) a w :=
  wpList_load_row hgd 28 X ho g hx 28 _ (0, 0) _ h Tryd.underlying28 rfl (info_of_arr8 _) k
theorem gld8 {g : Nat} {x : Nat → Int} (h : Blk w g 28 (arr .u8 64 x)) (hw : Region.wanted o (yielded ops a.tmps) = true) (ho : o.op = .load 28 X) (hx : a.eval X = .pointer (some ⟨g, 0, none⟩))
    (k : wpList Tryd.prog ops Q rest (a.put o.dst (.agg (arr .u8 64 x))) w) : wpList Tryd.prog ops Q (o :: rest) a w :=
  wpList_step fun K hK => by
    rw [if_pos hw]
    exact wp_load_row _ X ho g hx _ _ (0, 0) _ h Tryd.underlying28 rfl (info_of_arr8 _) (hK _ _ k)
theorem res8 {g : Nat} {x : Nat → Int} {fn : Func} {p : Tmp} (h : fn.results = #[.cell p 28]) {tmps : Array Value} (hb : Blk w g 28 (arr .u8 64 x)) (hp : tmps.getD p undef = .pointer (some ⟨g, 0, none⟩)) :
    (results fn tmps).run Tryd.prog w = .ok (.agg (arr .u8 64 x)) w :=
  results_cell_row h tmps w g 28 _ (0, 0) _ hp hb Tryd.underlying28 rfl (info_of_arr8 _)
end
/-- 64 bytes. -/
def U8 (x : Nat → Int) : Prop := ∀ j, j < 64 → 0 ≤ x j ∧ x j ≤ 255
end Go.Proofs.YtmjjdehicngffaaDoor
