/- The contract of transform.Forward. -/
import Derived.Test.YtmjjdehicngffaaDoorTp
import Derived.BigRegion
import Derived.Laws.ResultCell
namespace Go.Proofs.YtmjjdehicngffaaDoor
open Go.RowKit

theorem res2_64 {fn : Func} {p u : Tmp} {w : World} {g : Nat} {x : Nat → Int} (h : fn.results = #[.cell p 23, .tmp u]) {tmps : Array Value} (hb : Blk w g 23 (arr .i64 64 x)) (hp : tmps.getD p undef = .pointer (some ⟨g, 0, none⟩)) :
    (results fn tmps).run Tryd.prog w = .ok (.tuple #[.agg (arr .i64 64 x), tmps.getD u undef]) w := by
  rw [results_cell_tmp h, hp]
  have := run_loadVar_row (P := Tryd.prog) w g 23 23 _ (0, 0) _ hb Tryd.underlying23 rfl (info_of_arr x)
  simp [asAddr, this]
section
variable {ops : Array Oper} {rest : List Oper} {o : Oper} {a : Act} {w : World} {Q : Exit → Act → World → Prop} {X : Operand}
/-- The zero value of an array, built. -/
theorem bld64 (hgd : o.guard = none) (ho : o.op = .build 23 #[]) (k : wpList Tryd.prog ops Q rest (a.put o.dst (.agg (arr .i64 64 fun _ => 0))) w) : wpList Tryd.prog ops Q (o :: rest) a w :=
  have hb : Tryd.prog.built 23 [] = some (arr .i64 64 fun _ => 0) := by kernel_rfl
  wpList_build hgd _ #[] ho (by simp [hb]) (by simpa [hb] using k)
end

theorem size_int (w : World) : (sizeOf 3).run Tryd.prog w = .ok 1 w := by
  have h : (Tryd.prog.info? 3).map (·.size) = some 1 := by kernel_rfl
  cases hq : Tryd.prog.info? 3 with
  | none => simp [hq] at h
  | some i =>
    have hs : i.size = 1 := by simpa [hq] using h
    simp [sizeOf, typeInfo, hq, hs]
theorem idx64 (x : Nat → Int) (k : Nat) (hk : k < 64) (w : World) : (Instr.index 23 (.agg (arr .i64 64 x)) (.int .i64 (k : Int))).run Tryd.prog w = .ok (.int .i64 (x k)) w :=
  run_index_arr w _ _ _ _ _ Tryd.underlying23 Tryd.underlying3 size_int _ _ hk
theorem mulT_bd {i k : Nat} {v B : Int} (hi : i < 8) (hk : k < 8) (hv : -B ≤ v ∧ v ≤ B) : -(12 * B) ≤ T i k * v ∧ T i k * v ≤ 12 * B := mul_bd (T_bd hi hk) hv

end Go.Proofs.YtmjjdehicngffaaDoor
